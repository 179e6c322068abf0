/- Parts of several texts of other seats, as far as this seat has their functions. Conditions: as said. -/
import Derived.Test.YthooacpfmjpdmaaGreatDoorProg
import Derived.Test.YthooacpfmjpdmaaGreatDoorKit
import Derived.WalkSpells
import Derived.WalkLawsBesides
import Derived.BigGuardPart
import Derived.BigQuiet
import Derived.Deep.QuietTactic
import Derived.Deep.RegionHeld3
import Derived.Deep.DeepCutAuto
import Derived.Lib.QuietBelow
namespace Go.Proofs.YthooacpfmjpdmaaGreatDoor
open Go.RowKit

structure Cal where
  first : Int
  free : List Int
  still : List (Int × Int)
def withinB (n lo hi : Int) : Bool := decide (lo ≤ n) && decide (n ≤ hi)
theorem withinB_iff {n lo hi : Int} : withinB n lo hi = true ↔ lo ≤ n ∧ n ≤ hi := by simp [withinB]
def spanB (s : Int × Int) : Bool := decide (0 ≤ s.1) && (decide (s.1 ≤ s.2) && decide (s.2 ≤ 10000))
theorem spanB_iff {s : Int × Int} : spanB s = true ↔ 0 ≤ s.1 ∧ s.1 ≤ s.2 ∧ s.2 ≤ 10000 := by simp [spanB]
/-- Is the i-th free day wrong? -/
def badFree (l : List Int) (i : Nat) : Bool := !(withinB (gi l 0 i) 0 10000) || (decide (0 < i) && decide (gi l 0 i ≤ gi l 0 (i - 1)))
def badStill (l : List (Int × Int)) (i : Nat) : Bool := !(spanB (gi l (0, 0) i)) || (decide (0 < i) && decide ((gi l (0, 0) i).1 ≤ (gi l (0, 0) (i - 1)).2))
/-- Is p true of a number from k to n - 1? -/
def someFrom (p : Nat → Bool) (n k : Nat) : Bool := if k < n then (if p k then true else someFrom p n (k + 1)) else false
termination_by n - k
theorem someFrom_yes {p : Nat → Bool} {n k : Nat} (h : k < n) (hp : p k = true) : someFrom p n k = true := by rw [someFrom, if_pos h, if_pos hp]
theorem someFrom_no {p : Nat → Bool} {n k : Nat} (h : k < n) (hp : p k = false) : someFrom p n k = someFrom p n (k + 1) := by rw [someFrom, if_pos h, if_neg (by simp [hp])]
theorem someFrom_end {p : Nat → Bool} {n k : Nat} (h : ¬ k < n) : someFrom p n k = false := by rw [someFrom, if_neg h]
theorem someFrom_iff {p : Nat → Bool} {n : Nat} : ∀ k, someFrom p n k = true ↔ ∃ i, k ≤ i ∧ i < n ∧ p i = true := by
  intro k
  generalize hm : n - k = m
  induction m generalizing k with
  | zero =>
    rw [someFrom_end (by omega)]
    constructor
    · intro h; cases h
    · rintro ⟨i, h1, h2, _⟩; omega
  | succ m ih =>
    by_cases hp : p k = true
    · rw [someFrom_yes (by omega) hp]
      exact ⟨fun _ => ⟨k, Nat.le_refl _, by omega, hp⟩, fun _ => rfl⟩
    · rw [someFrom_no (by omega) (by simpa using hp), ih (k + 1) (by omega)]
      constructor
      · rintro ⟨i, h1, h2, h3⟩; exact ⟨i, by omega, h2, h3⟩
      · rintro ⟨i, h1, h2, h3⟩
        refine ⟨i, ?_, h2, h3⟩
        rcases Nat.lt_or_eq_of_le h1 with h | rfl
        · omega
        · exact absurd h3 hp
def validF (c : Cal) : Int :=
  if withinB c.first 0 6 then
    (if decide (12 < c.free.length) || decide (4 < c.still.length) then 3
     else if someFrom (badFree c.free) c.free.length 0 then 1
     else if someFrom (badStill c.still) c.still.length 0 then 1 else 0)
  else 1
def dayB (d : Int) : Bool := withinB d 0 10000
def termB (n : Int) : Bool := withinB n 0 400
def weekF (c : Cal) (d : Int) : Int := (c.first + d) % 7
def freeB (c : Cal) (d : Int) : Bool := (weekF c d == 6) || hasB c.free d
def stillB (c : Cal) (d : Int) : Bool := c.still.any fun s => withinB d s.1 s.2
def daysF (l : List Int) : Int := if l.any (fun d => !(dayB d)) then 1 else 0
def termsF (l : List Int) : Int := if l.any (fun d => !(termB d)) then 1 else 0
/-- The first error of a calendar, of days and of numbers of days. -/
def askedF (c : Cal) (days terms : List Int) : Int :=
  if validF c = 0 then (if daysF days = 0 then termsF terms else daysF days) else validF c
/-- v is a calendar. -/
def CalAt (w : World) (v : Value) (c : Cal) : Prop :=
  ∃ fv sv, v = .agg #[.int .i64 c.first, fv, sv] ∧ IntsAt w fv c.free ∧ PairsAt w sv c.still
theorem CalAt.below {w w' : World} {v : Value} {c : Cal} (h : CalAt w v c) (hb : Below w.heap.size w w') : CalAt w' v c := by
  obtain ⟨fv, sv, hv, hf, hs⟩ := h
  exact ⟨fv, sv, hv, hf.below hb, hs.below hb⟩
/-- Its three cells, written out. -/
theorem CalAt.cells {w : World} {v : Value} {c : Cal} (h : CalAt w v c) :
    ∃ fa fc sa sc, v = .agg #[.int .i64 c.first, .slice fa c.free.length fc, .slice sa c.still.length sc] ∧ IntsAt w (.slice fa c.free.length fc) c.free ∧ PairsAt w (.slice sa c.still.length sc) c.still ∧
      fc ≤ 9223372036854775807 ∧ sc ≤ 9223372036854775807 ∧ c.free.length ≤ fc ∧ c.still.length ≤ sc := by
  obtain ⟨fv, sv, hv, hf, hs⟩ := h
  obtain ⟨fa, fc, rfl, h1, h2, _⟩ := id hf
  obtain ⟨sa, sc, rfl, h3, h4, _⟩ := id hs
  exact ⟨fa, fc, sa, sc, hv, hf, hs, h2, h4, h1, h3⟩
end Go.Proofs.YthooacpfmjpdmaaGreatDoor

namespace Go.Proofs.YthooacpfmjpdmaaGreatDoor
open Go.RowKit

/-- The first day from d on for which p holds, looked for n times. -/
def firstDay (p : Int → Bool) : Nat → Int → Int
  | 0, d => d
  | n + 1, d => if p d then d else firstDay p n (d + 1)
theorem firstDay_eq {p : Int → Bool} : ∀ (k n : Nat) (d : Int), (∀ i : Nat, i < k → p (d + i) = false) → p (d + k) = true → k < n → firstDay p n d = d + k
  | 0, n + 1, d, _, h, _ => by
    have h' : p d = true := by simpa using h
    simp [firstDay, h']
  | k + 1, n + 1, d, h0, h, hk => by
    have h' : p d = false := by simpa using h0 0 (by omega)
    rw [firstDay, if_neg (by simp [h']), firstDay_eq k n (d + 1) (fun i hi => by
      have := h0 (i + 1) (by omega)
      rwa [show d + 1 + (i : Int) = d + ((i + 1 : Nat) : Int) by omega]) (by rwa [show d + 1 + (k : Int) = d + ((k + 1 : Nat) : Int) by omega]) (by omega)]
    omega
/-- What the first day is. -/
def IsFirst (p : Int → Bool) (d r : Int) : Prop := d ≤ r ∧ p r = true ∧ ∀ x, d ≤ x → x < r → p x = false
theorem isFirst_firstDay {p : Int → Bool} {d : Int} : ∀ (n : Nat), (∃ k : Nat, k < n ∧ p (d + k) = true) → IsFirst p d (firstDay p n d) := by
  intro n
  induction n generalizing d with
  | zero => rintro ⟨k, hk, _⟩; omega
  | succ n ih =>
    rintro ⟨k, hk, hp⟩
    by_cases h : p d = true
    · rw [firstDay, if_pos h]; exact ⟨Int.le_refl _, h, fun x h1 h2 => by omega⟩
    · rw [firstDay, if_neg h]
      have hk0 : 0 < k := by
        rcases Nat.eq_zero_or_pos k with rfl | h'
        · simp at hp; exact absurd hp h
        · exact h'
      obtain ⟨h1, h2, h3⟩ := ih (d := d + 1) ⟨k - 1, by omega, by rwa [show d + 1 + ((k - 1 : Nat) : Int) = d + k by omega]⟩
      refine ⟨by omega, h2, fun x hx1 hx2 => ?_⟩
      rcases Int.lt_or_eq_of_le hx1 with hl | rfl
      · exact h3 x (by omega) hx2
      · simpa using h
theorem isFirst_le {p : Int → Bool} {d : Int} {n k : Nat} (hk : k < n) (hp : p (d + k) = true) : firstDay p n d ≤ d + k := by
  have h := isFirst_firstDay (p := p) (d := d) n ⟨k, hk, hp⟩
  rcases Int.lt_or_le (d + k) (firstDay p n d) with hl | hl
  · have := h.2.2 (d + k) (by omega) hl; rw [hp] at this; cases this
  · exact hl
/-- How many of the n days from d on are of a kind. -/
def cnt (p : Int → Bool) (d : Int) : Nat → Int
  | 0 => 0
  | n + 1 => cnt p d n + if p (d + n) then 1 else 0
theorem cnt_nonneg (p : Int → Bool) (d : Int) : ∀ n, 0 ≤ cnt p d n
  | 0 => Int.le_refl _
  | n + 1 => by have := cnt_nonneg p d n; unfold cnt; split <;> omega
theorem cnt_le (p : Int → Bool) (d : Int) : ∀ n : Nat, cnt p d n ≤ n
  | 0 => Int.le_refl _
  | n + 1 => by have := cnt_le p d n; unfold cnt; split <;> omega
theorem cnt_add (p : Int → Bool) (d : Int) (m : Nat) : ∀ n, cnt p d (m + n) = cnt p d m + cnt p (d + m) n
  | 0 => by simp [cnt]
  | n + 1 => by
    rw [← Nat.add_assoc, cnt, cnt, cnt_add p d m n, show d + (m : Int) + (n : Int) = d + ((m + n : Nat) : Int) by omega]
    omega
theorem cnt_all {p : Int → Bool} {d : Int} : ∀ n : Nat, (∀ i : Nat, i < n → p (d + i) = true) → cnt p d n = n
  | 0, _ => rfl
  | n + 1, h => by rw [cnt, cnt_all n (fun i hi => h i (by omega)), h n (by omega)]; simp
/-- Behind the last day of a calendar nothing stands still, and only one day of the week is free. -/
theorem valid_free {c : Cal} (h : validF c = 0) {x : Int} (hx : x ∈ c.free) : 0 ≤ x ∧ x ≤ 10000 := by
  unfold validF at h
  split at h
  · split at h
    · exact absurd h (by decide)
    · split at h
      · exact absurd h (by decide)
      · rename_i hs
        obtain ⟨i, hi, rfl⟩ := List.getElem_of_mem hx
        have hb : badFree c.free i = false := by
          cases hb : badFree c.free i
          · rfl
          · exact absurd ((someFrom_iff 0).2 ⟨i, Nat.zero_le _, hi, hb⟩) hs
        unfold badFree at hb
        rw [Bool.or_eq_false_iff] at hb
        have := hb.1
        rw [gi_lt hi] at this
        exact withinB_iff.1 (by simpa using this)
  · exact absurd h (by decide)
theorem valid_span {c : Cal} (h : validF c = 0) {s : Int × Int} (hx : s ∈ c.still) : 0 ≤ s.1 ∧ s.1 ≤ s.2 ∧ s.2 ≤ 10000 := by
  unfold validF at h
  split at h
  · split at h
    · exact absurd h (by decide)
    · split at h
      · exact absurd h (by decide)
      · split at h
        · exact absurd h (by decide)
        · rename_i hs
          obtain ⟨i, hi, rfl⟩ := List.getElem_of_mem hx
          have hb : badStill c.still i = false := by
            cases hb : badStill c.still i
            · rfl
            · exact absurd ((someFrom_iff 0).2 ⟨i, Nat.zero_le _, hi, hb⟩) hs
          unfold badStill at hb
          rw [Bool.or_eq_false_iff] at hb
          have := hb.1
          rw [gi_lt hi] at this
          exact spanB_iff.1 (by simpa using this)
  · exact absurd h (by decide)
theorem still_late {c : Cal} (h : validF c = 0) {x : Int} (hx : 10000 < x) : stillB c x = false := by
  unfold stillB
  rw [List.any_eq_false]
  intro s hs hw
  have := valid_span h hs
  have := withinB_iff.1 hw
  omega
theorem free_late {c : Cal} (h : validF c = 0) {x : Int} (hx : 10000 < x) : freeB c x = (weekF c x == 6) := by
  unfold freeB
  have : hasB c.free x = false := by
    cases hb : hasB c.free x
    · rfl
    · have := valid_free h (hasB_iff.1 hb); omega
  rw [this, Bool.or_false]
/-- One of two days in a row behind the last day is not free. -/
theorem work_late {c : Cal} (h : validF c = 0) {x : Int} (hx : 10000 < x) : freeB c x = false ∨ freeB c (x + 1) = false := by
  rw [free_late h hx, free_late h (x := x + 1) (by omega)]
  unfold weekF
  simp only [beq_eq_false_iff_ne]
  omega
/-- May a term of so many days, begun on a day, end on day x? -/
def endB (c : Cal) (day days x : Int) : Bool := decide (days ≤ cnt (fun y => !(stillB c y)) (day + 1) (x - day).toNat) && !(freeB c x)
/-- The end of a term. -/
def endsF (c : Cal) (day days : Int) : Int := firstDay (endB c day days) 20000 day
theorem cnt_late {c : Cal} (h : validF c = 0) {day days x : Int} (h1 : 0 ≤ days) (h2 : day ≤ x) (h3 : 10000 + days ≤ x) (h4 : day + days ≤ x) :
    days ≤ cnt (fun y => !(stillB c y)) (day + 1) (x - day).toNat := by
  -- the last 'days' days up to x all count
  have hle : days.toNat ≤ (x - day).toNat := by omega
  obtain ⟨m, hm⟩ := Nat.exists_eq_add_of_le hle
  rw [hm, Nat.add_comm, cnt_add, cnt_all days.toNat (fun i hi => by
    rw [still_late h (by omega)]; rfl)]
  have := cnt_nonneg (fun y => !(stillB c y)) (day + 1) m
  omega
theorem ends_some {c : Cal} (h : validF c = 0) {day days : Int} (h0 : 0 ≤ day) (h1 : 0 ≤ days) (h2 : days ≤ 4000) :
    ∃ k : Nat, k < 14003 ∧ (day + k ≤ 10002 + days ∨ k ≤ days + 1) ∧ endB c day days (day + k) = true := by
  have key : ∀ x : Int, day ≤ x → 10000 + days ≤ x → 10000 < x → day + days ≤ x → ∃ k : Nat, (day + k = x ∨ day + k = x + 1) ∧ endB c day days (day + k) = true := by
    intro x hx1 hx2 hx4 hx3
    rcases work_late h hx4 with hf | hf
    · refine ⟨(x - day).toNat, .inl (by omega), ?_⟩
      rw [show day + ((x - day).toNat : Int) = x by omega]
      unfold endB
      rw [hf, Bool.and_eq_true]
      exact ⟨by simpa using cnt_late h h1 hx1 hx2 hx3, rfl⟩
    · refine ⟨(x + 1 - day).toNat, .inr (by omega), ?_⟩
      rw [show day + ((x + 1 - day).toNat : Int) = x + 1 by omega]
      unfold endB
      rw [hf, Bool.and_eq_true]
      exact ⟨by simpa using cnt_late h h1 (x := x + 1) (by omega) (by omega) (by omega), rfl⟩
  by_cases hd : 10000 < day
  · obtain ⟨k, hk, hp⟩ := key (day + days) (by omega) (by omega) (by omega) (by omega)
    exact ⟨k, by omega, by omega, hp⟩
  · obtain ⟨k, hk, hp⟩ := key (10001 + days) (by omega) (by omega) (by omega) (by omega)
    exact ⟨k, by omega, by omega, hp⟩
theorem endsF_first {c : Cal} (h : validF c = 0) {day days : Int} (h0 : 0 ≤ day) (h1 : 0 ≤ days) (h2 : days ≤ 4000) : IsFirst (endB c day days) day (endsF c day days) := by
  obtain ⟨k, hk, _, hp⟩ := ends_some h h0 h1 h2
  exact isFirst_firstDay _ ⟨k, by omega, hp⟩
theorem endsF_le {c : Cal} (h : validF c = 0) {day days : Int} (h0 : 0 ≤ day) (h1 : 0 ≤ days) (h2 : days ≤ 4000) : endsF c day days ≤ 10002 + days ∨ endsF c day days ≤ day + days + 1 := by
  obtain ⟨k, hk, hk2, hp⟩ := ends_some h h0 h1 h2
  have := isFirst_le (k := k) (n := 20000) (by omega) hp
  unfold endsF
  omega
/-! What the exported functions answer: a value and an error. -/
def endsR (c : Cal) (d n : Int) : Int := if askedF c [d] [n] = 0 then endsF c d n else 0
end Go.Proofs.YthooacpfmjpdmaaGreatDoor

namespace Go.Proofs.YthooacpfmjpdmaaGreatDoor
open Go.RowKit

/-- The place of the first element from k on for which p holds, else -1. -/
def idxFrom {α : Type} (l : List α) (p : α → Bool) (d : α) (k : Nat) : Int :=
  if k < l.length then (if p (gi l d k) then k else idxFrom l p d (k + 1)) else -1
termination_by l.length - k
theorem idxFrom_yes {α : Type} {l : List α} {p : α → Bool} {d : α} {k : Nat} (h : k < l.length) (hp : p (gi l d k) = true) : idxFrom l p d k = k := by
  rw [idxFrom, if_pos h, if_pos hp]
theorem idxFrom_no {α : Type} {l : List α} {p : α → Bool} {d : α} {k : Nat} (h : k < l.length) (hp : p (gi l d k) = false) : idxFrom l p d k = idxFrom l p d (k + 1) := by
  rw [idxFrom, if_pos h, if_neg (by simp [hp])]
theorem idxFrom_end {α : Type} {l : List α} {p : α → Bool} {d : α} {k : Nat} (h : ¬ k < l.length) : idxFrom l p d k = -1 := by
  rw [idxFrom, if_neg h]
theorem idxFrom_nonneg {α : Type} (l : List α) (p : α → Bool) (d : α) (k : Nat) : (decide (0 ≤ idxFrom l p d k)) = (l.drop k).any p := by
  generalize hn : l.length - k = n
  induction n generalizing k with
  | zero =>
    have : ¬ k < l.length := by omega
    rw [idxFrom_end this, List.drop_eq_nil_of_le (by omega)]; rfl
  | succ n ih =>
    have h : k < l.length := by omega
    have e : l.drop k = gi l d k :: l.drop (k + 1) := by rw [List.drop_eq_getElem_cons h]; simp [gi, h]
    by_cases hp : p (gi l d k) = true
    · rw [idxFrom_yes h hp, e, List.any_cons, hp]; simp
    · rw [idxFrom_no h (by simpa using hp), ih (k + 1) (by omega), e, List.any_cons]; simp [hp]
theorem idxFrom_contains (l : List Int) (x : Int) : (decide (0 ≤ idxFrom l (fun y => x == y) 0 0)) = hasB l x := by
  unfold hasB
  rw [idxFrom_nonneg, List.drop_zero, List.contains_eq_any_beq]
set_option maxHeartbeats 400000 in
theorem index_ints (v : Value) (l : List Int) (x : Int) (w : World) (h : IntsAt w v l) :
    Calls Tryz.prog 177 #[v, .int .i64 x] w fun e w' => e = .returned (.int .i64 (idxFrom l (fun y => x == y) 0 0)) ∧ w = w' := by
  obtain ⟨a, cap, rfl, hlc, hcm, hc⟩ := h
  have HC := Lib.hid hc
  clear hc
  go_enter Tryz.func177, Tryz.ntmps177
  go_wp2
  go_loop [8] (fun i => ∃ k : Nat, k ≤ l.length ∧ i = .int .i64 k ∧ Hid (idxFrom l (fun y => x == y) 0 0 = idxFrom l (fun y => x == y) 0 k)) (fun i => l.length - (intOf i).toNat)
  case atStart => exact ⟨0, Nat.zero_le _, rfl, rfl⟩
  case round =>
    obtain ⟨k, hk, rfl, hr⟩ := hrel
    by_cases hlt : k < l.length
    · obtain ⟨b, o, rfl, hB, hcell⟩ := HC.out k hlt
      cases hx : (x == gi l 0 k)
      · have H1 := Lib.hid (idxFrom_no (d := (0 : Int)) (p := fun y => x == y) hlt hx)
        go_wp2
        go_round
        case rel => exact ⟨k + 1, by omega, by go_num, by unfold Hid; rw [hr.out, H1.out]⟩
        case measure => simp [intOf]; omega
      · have H1 := Lib.hid (idxFrom_yes (d := (0 : Int)) (p := fun y => x == y) hlt hx)
        go_wp2
        go_ret
        exact ⟨ret_int (by rw [hr.out, H1.out]), rfl⟩
    · have H1 := Lib.hid (idxFrom_end (d := (0 : Int)) (p := fun y => x == y) hlt)
      go_wp2
      go_ret
      exact ⟨ret_int (by rw [hr.out, H1.out]), rfl⟩
set_option maxHeartbeats 400000 in
theorem contains_ints (v : Value) (l : List Int) (x : Int) (w : World) (h : IntsAt w v l) :
    Calls Tryz.prog 164 #[v, .int .i64 x] w fun e w' => e = .returned (.bool (hasB l x)) ∧ w = w' := by
  have H := Lib.hid (idxFrom_contains l x)
  go_enter Tryz.func164, Tryz.ntmps164
  go_wp2_with (go_at_call 177; refine (index_ints _ l _ _ h).mono ?_; rintro e w' ⟨rfl, rfl⟩)
  go_ret
  exact ⟨ret_bool (by rw [← H.out]), rfl⟩
set_option maxHeartbeats 400000 in
theorem indexFunc_ints (v : Value) (l : List Int) (g : Nat) (cap : Array Value) (p : Int → Bool) (w : World) (h : IntsAt w v l)
    (eg : ∀ args w, (callFunc g args).run Tryz.prog w = .ok (.enter g args) w)
    (hp : ∀ x w', Below w.heap.size w w' → Gives Tryz.prog g (#[.int .i64 x] ++ cap) w' (.bool (p x))) :
    Gives Tryz.prog 130 #[v, .func (.func g) #[] cap] w (.int .i64 (idxFrom l p 0 0)) := by
  obtain ⟨a, cp, rfl, hlc, hcm, hc⟩ := h
  have HC := Lib.hid hc
  have HP := Lib.hid hp
  clear hc hp
  unfold Gives
  go_enter Tryz.func130, Tryz.ntmps130
  go_wp2
  go_loopw [8] (fun i wr => ∃ k : Nat, k ≤ l.length ∧ i = .int .i64 k ∧ Hid (idxFrom l p 0 0 = idxFrom l p 0 k) ∧ Below w.heap.size w wr) (fun i _ => l.length - (intOf i).toNat)
  case atStart => exact ⟨0, Nat.zero_le _, rfl, rfl, Below.refl _ _⟩
  case round =>
    obtain ⟨k, hk, rfl, hr, hb⟩ := hrel
    by_cases hlt : k < l.length
    · obtain ⟨b, o, rfl, hB, hcell0⟩ := HC.out k hlt
      have hcell : wr.cell? ⟨b, o + k, none⟩ = some (.int .i64 (gi l 0 k)) := (hb.cell (p := ⟨b, o + k, none⟩) hB).trans hcell0
      clear hcell0
      have HW := Lib.hid (HP.out (gi l 0 k) wr hb)
      cases hx : p (gi l 0 k)
      · have H1 := Lib.hid (idxFrom_no (d := (0 : Int)) (p := p) hlt hx)
        go_wp2_with (refine HW.out.use ?_; intro w1 hb1 hz1 hc1 hf1)
        go_roundw
        case rel => exact ⟨k + 1, by omega, by go_num, by unfold Hid; rw [hr.out, H1.out], below_tail hb1 hb⟩
        case measure => simp [intOf]; omega
      · have H1 := Lib.hid (idxFrom_yes (d := (0 : Int)) (p := p) hlt hx)
        go_wp2_with (refine HW.out.use ?_; intro w1 hb1 hz1 hc1 hf1)
        go_ret
        exact ⟨ret_int (by rw [hr.out, H1.out]), below_tail hb1 hb⟩
    · have H1 := Lib.hid (idxFrom_end (d := (0 : Int)) (p := p) hlt)
      go_wp2
      go_ret
      exact ⟨ret_int (by rw [hr.out, H1.out]), hb⟩
set_option maxHeartbeats 400000 in
theorem indexFunc_spans (v : Value) (l : List (Int × Int)) (g : Nat) (cap : Array Value) (p : Int × Int → Bool) (w : World) (h : PairsAt w v l)
    (eg : ∀ args w, (callFunc g args).run Tryz.prog w = .ok (.enter g args) w)
    (hp : ∀ x w', Below w.heap.size w w' → Gives Tryz.prog g (#[.agg #[.int .i64 x.1, .int .i64 x.2]] ++ cap) w' (.bool (p x))) :
    Gives Tryz.prog 176 #[v, .func (.func g) #[] cap] w (.int .i64 (idxFrom l p (0, 0) 0)) := by
  obtain ⟨a, cp, rfl, hlc, hcm, hc⟩ := h
  have HC := Lib.hid hc
  have HP := Lib.hid hp
  clear hc hp
  unfold Gives
  go_enter Tryz.func176, Tryz.ntmps176
  go_wp2
  go_loopw [8] (fun i wr => ∃ k : Nat, k ≤ l.length ∧ i = .int .i64 k ∧ Hid (idxFrom l p (0, 0) 0 = idxFrom l p (0, 0) k) ∧ Below w.heap.size w wr) (fun i _ => l.length - (intOf i).toNat)
  case atStart => exact ⟨0, Nat.zero_le _, rfl, rfl, Below.refl _ _⟩
  case round =>
    obtain ⟨k, hk, rfl, hr, hb⟩ := hrel
    by_cases hlt : k < l.length
    · obtain ⟨b, o, rfl, hB, hcell0, hdell0⟩ := HC.out k hlt
      have hcell : wr.cell? ⟨b, o + k * 2, none⟩ = some (.int .i64 (gi l (0, 0) k).1) := (hb.cell (p := ⟨b, o + k * 2, none⟩) hB).trans hcell0
      have hdell : wr.cell? ⟨b, o + k * 2 + 1, none⟩ = some (.int .i64 (gi l (0, 0) k).2) := (hb.cell (p := ⟨b, o + k * 2 + 1, none⟩) hB).trans hdell0
      clear hcell0 hdell0
      have HW := Lib.hid (HP.out (gi l (0, 0) k) wr hb)
      cases hx : p (gi l (0, 0) k)
      · have H1 := Lib.hid (idxFrom_no (d := ((0, 0) : Int × Int)) (p := p) hlt hx)
        go_wp2_with (refine HW.out.use ?_; intro w1 hb1 hz1 hc1 hf1)
        go_roundw
        case rel => exact ⟨k + 1, by omega, by go_num, by unfold Hid; rw [hr.out, H1.out], below_tail hb1 hb⟩
        case measure => simp [intOf]; omega
      · have H1 := Lib.hid (idxFrom_yes (d := ((0, 0) : Int × Int)) (p := p) hlt hx)
        go_wp2_with (refine HW.out.use ?_; intro w1 hb1 hz1 hc1 hf1)
        go_ret
        exact ⟨ret_int (by rw [hr.out, H1.out]), below_tail hb1 hb⟩
    · have H1 := Lib.hid (idxFrom_end (d := ((0, 0) : Int × Int)) (p := p) hlt)
      go_wp2
      go_ret
      exact ⟨ret_int (by rw [hr.out, H1.out]), hb⟩
set_option maxHeartbeats 400000 in
theorem containsFunc_ints (v : Value) (l : List Int) (g : Nat) (cap : Array Value) (p : Int → Bool) (w : World) (h : IntsAt w v l)
    (eg : ∀ args w, (callFunc g args).run Tryz.prog w = .ok (.enter g args) w)
    (hp : ∀ x w', Below w.heap.size w w' → Gives Tryz.prog g (#[.int .i64 x] ++ cap) w' (.bool (p x))) :
    Gives Tryz.prog 100 #[v, .func (.func g) #[] cap] w (.bool (l.any p)) := by
  have H := Lib.hid (idxFrom_nonneg l p 0 0)
  have HP := Lib.hid (indexFunc_ints v l g cap p w h eg hp)
  clear hp
  unfold Gives
  go_enter Tryz.func100, Tryz.ntmps100
  go_wp2_with (refine HP.out.use ?_; intro w1 hb1 hz1 hc1 hf1)
  go_ret
  exact ⟨ret_bool (by rw [H.out, List.drop_zero]), hb1⟩
set_option maxHeartbeats 400000 in
theorem containsFunc_spans (v : Value) (l : List (Int × Int)) (g : Nat) (cap : Array Value) (p : Int × Int → Bool) (w : World) (h : PairsAt w v l)
    (eg : ∀ args w, (callFunc g args).run Tryz.prog w = .ok (.enter g args) w)
    (hp : ∀ x w', Below w.heap.size w w' → Gives Tryz.prog g (#[.agg #[.int .i64 x.1, .int .i64 x.2]] ++ cap) w' (.bool (p x))) :
    Gives Tryz.prog 161 #[v, .func (.func g) #[] cap] w (.bool (l.any p)) := by
  have H := Lib.hid (idxFrom_nonneg l p (0, 0) 0)
  have HP := Lib.hid (indexFunc_spans v l g cap p w h eg hp)
  clear hp
  unfold Gives
  go_enter Tryz.func161, Tryz.ntmps161
  go_wp2_with (refine HP.out.use ?_; intro w1 hb1 hz1 hc1 hf1)
  go_ret
  exact ⟨ret_bool (by rw [H.out, List.drop_zero]), hb1⟩
/-- The first number that is not 0. -/
def orFrom (l : List Int) (k : Nat) : Int :=
  if k < l.length then (if gi l 0 k != 0 then gi l 0 k else orFrom l (k + 1)) else 0
termination_by l.length - k
theorem orFrom_yes {l : List Int} {k : Nat} (h : k < l.length) (hp : (gi l 0 k != 0) = true) : orFrom l k = gi l 0 k := by rw [orFrom, if_pos h, if_pos hp]
theorem orFrom_no {l : List Int} {k : Nat} (h : k < l.length) (hp : (gi l 0 k != 0) = false) : orFrom l k = orFrom l (k + 1) := by rw [orFrom, if_pos h, if_neg (by simp [hp])]
theorem orFrom_end {l : List Int} {k : Nat} (h : ¬ k < l.length) : orFrom l k = 0 := by rw [orFrom, if_neg h]
theorem orFrom_2 (a b : Int) : orFrom [a, b] 0 = if a = 0 then b else a := by
  by_cases ha : a = 0
  · rw [orFrom_no (by simp) (by simp [gi, ha]), if_pos ha]
    by_cases hb : b = 0
    · rw [orFrom_no (by simp) (by simp [gi, hb]), orFrom_end (by simp), hb]
    · rw [orFrom_yes (by simp) (by simp [gi, hb])]; simp [gi]
  · rw [orFrom_yes (by simp) (by simp [gi, ha]), if_neg ha]; simp [gi]
theorem orFrom_3 (a b c : Int) : orFrom [a, b, c] 0 = if a = 0 then (if b = 0 then c else b) else a := by
  by_cases ha : a = 0
  · rw [orFrom_no (by simp) (by simp [gi, ha]), if_pos ha]
    by_cases hb : b = 0
    · rw [orFrom_no (by simp) (by simp [gi, hb]), if_pos hb]
      by_cases hc : c = 0
      · rw [orFrom_no (by simp) (by simp [gi, hc]), orFrom_end (by simp), hc]
      · rw [orFrom_yes (by simp) (by simp [gi, hc])]; simp [gi]
    · rw [orFrom_yes (by simp) (by simp [gi, hb]), if_neg hb]; simp [gi]
  · rw [orFrom_yes (by simp) (by simp [gi, ha]), if_neg ha]; simp [gi]
set_option maxHeartbeats 400000 in
theorem or_calls (v : Value) (l : List Int) (w : World) (h : IntsAt w v l) :
    Calls Tryz.prog 78 #[v] w fun e w' => e = .returned (.int .i64 (orFrom l 0)) ∧ w = w' := by
  obtain ⟨a, cap, rfl, hlc, hcm, hc⟩ := h
  have HC := Lib.hid hc
  clear hc
  go_enter Tryz.func78, Tryz.ntmps78
  go_wp2
  go_loop [8] (fun i => ∃ k : Nat, k ≤ l.length ∧ i = .int .i64 k ∧ Hid (orFrom l 0 = orFrom l k)) (fun i => l.length - (intOf i).toNat)
  case atStart => exact ⟨0, Nat.zero_le _, rfl, rfl⟩
  case round =>
    obtain ⟨k, hk, rfl, hr⟩ := hrel
    by_cases hlt : k < l.length
    · obtain ⟨b, o, rfl, hB, hcell⟩ := HC.out k hlt
      cases hx : (gi l 0 k != 0)
      · have H1 := Lib.hid (orFrom_no hlt hx)
        have hx2 : (gi l 0 k == 0) = true := by simpa using hx
        go_wp2
        go_round
        case rel => exact ⟨k + 1, by omega, by go_num, by unfold Hid; rw [hr.out, H1.out]⟩
        case measure => simp [intOf]; omega
      · have H1 := Lib.hid (orFrom_yes hlt hx)
        have hx2 : (gi l 0 k == 0) = false := by simpa using hx
        go_wp2
        go_ret
        exact ⟨ret_int (by rw [hr.out, H1.out]), rfl⟩
    · have H1 := Lib.hid (orFrom_end hlt)
      go_wp2
      go_ret
      exact ⟨ret_int (by rw [hr.out, H1.out]), rfl⟩
theorem or_is (v : Value) (l : List Int) (r : Int) (w : World) (h : IntsAt w v l) (hr : orFrom l 0 = r) :
    Calls Tryz.prog 78 #[v] w fun e w' => e = .returned (.int .i64 r) ∧ w = w' := hr ▸ or_calls v l w h
end Go.Proofs.YthooacpfmjpdmaaGreatDoor

namespace Go.Proofs.YthooacpfmjpdmaaGreatDoor
open Go.RowKit

set_option maxHeartbeats 400000 in
theorem within_calls (n lo hi : Int) (w : World) :
    Calls Tryz.prog 88 #[.int .i64 n, .int .i64 lo, .int .i64 hi] w fun e w' => e = .returned (.bool (withinB n lo hi)) ∧ w = w' := by
  by_cases h : lo ≤ n
  · go_enter Tryz.func88, Tryz.ntmps88
    go_wp2
    go_ret
    exact ⟨by simp [withinB, h], rfl⟩
  · go_enter Tryz.func88, Tryz.ntmps88
    go_wp2
    go_ret
    exact ⟨ret_bool (by have : decide (lo ≤ n) = false := by simpa using h
                        simp [withinB, this]), rfl⟩
set_option maxHeartbeats 400000 in
theorem isSpan_calls (s : Int × Int) (w : World) :
    Gives Tryz.prog 89 #[.agg #[.int .i64 s.1, .int .i64 s.2]] w (.bool (spanB s)) := by
  obtain ⟨a, b⟩ := s
  unfold Gives
  have H : Hid (spanB (a, b) = (withinB a 0 b && decide (b ≤ 10000))) := by unfold Hid; simp [spanB, withinB, Bool.and_assoc]
  cases hw : withinB a 0 b
  · go_enter Tryz.func89, Tryz.ntmps89
    go_wp2_with (go_at_call 88; refine (within_calls _ _ _ _).mono ?_; rintro e w' ⟨rfl, rfl⟩)
    go_ret
    exact ⟨ret_bool (by rw [H.out, hw]; rfl), by (repeat' (first | exact Below.refl _ _ | assumption | refine below_new ?_ _ | refine below_draw ?_ | refine below_tail (by assumption) ?_ | refine below_set ?_ (by first | omega | (simp <;> omega)) _))⟩
  · go_enter Tryz.func89, Tryz.ntmps89
    go_wp2_with (go_at_call 88; refine (within_calls _ _ _ _).mono ?_; rintro e w' ⟨rfl, rfl⟩)
    go_ret
    exact ⟨ret_bool (by rw [H.out, hw]; rfl), by (repeat' (first | exact Below.refl _ _ | assumption | refine below_new ?_ _ | refine below_draw ?_ | refine below_tail (by assumption) ?_ | refine below_set ?_ (by first | omega | (simp <;> omega)) _))⟩
set_option maxHeartbeats 400000 in
theorem areDays1_calls (d : Int) (w : World) :
    Calls Tryz.prog 107 #[.int .i64 d] w fun e w' => e = .returned (.bool (!(dayB d))) ∧ w = w' := by
  go_enter Tryz.func107, Tryz.ntmps107
  go_wp2_with (go_at_call 88; refine (within_calls _ _ _ _).mono ?_; rintro e w' ⟨rfl, rfl⟩)
  go_ret
  exact ⟨rfl, rfl⟩
set_option maxHeartbeats 400000 in
theorem areTerms1_calls (d : Int) (w : World) :
    Calls Tryz.prog 108 #[.int .i64 d] w fun e w' => e = .returned (.bool (!(termB d))) ∧ w = w' := by
  go_enter Tryz.func108, Tryz.ntmps108
  go_wp2_with (go_at_call 88; refine (within_calls _ _ _ _).mono ?_; rintro e w' ⟨rfl, rfl⟩)
  go_ret
  exact ⟨rfl, rfl⟩
set_option maxHeartbeats 400000 in
theorem areDays_calls (v : Value) (l : List Int) (w : World) (h : IntsAt w v l) :
    Gives Tryz.prog 79 #[v] w (.int .i64 (daysF l)) := by
  have HD : Hid (daysF l = if l.any (fun d => !(dayB d)) then 1 else 0) := rfl
  have HC := Lib.hid (containsFunc_ints v l 107 #[] (fun d => !(dayB d)) w h (fun _ _ => by kernel_rfl) (fun x w' _ => Gives.of_same (areDays1_calls x w')))
  unfold Gives
  cases hx : l.any (fun d => !(dayB d))
  · go_enter Tryz.func79, Tryz.ntmps79
    go_wp2_with (refine HC.out.use ?_; intro w1 hb1 hz1 hc1 hf1)
    go_ret
    exact ⟨ret_int (by rw [HD.out, hx]; rfl), hb1⟩
  · go_enter Tryz.func79, Tryz.ntmps79
    go_wp2_with (refine HC.out.use ?_; intro w1 hb1 hz1 hc1 hf1)
    go_ret
    exact ⟨ret_int (by rw [HD.out, hx]; rfl), hb1⟩
set_option maxHeartbeats 400000 in
theorem areTerms_calls (v : Value) (l : List Int) (w : World) (h : IntsAt w v l) :
    Gives Tryz.prog 80 #[v] w (.int .i64 (termsF l)) := by
  have HD : Hid (termsF l = if l.any (fun d => !(termB d)) then 1 else 0) := rfl
  have HC := Lib.hid (containsFunc_ints v l 108 #[] (fun d => !(termB d)) w h (fun _ _ => by kernel_rfl) (fun x w' _ => Gives.of_same (areTerms1_calls x w')))
  unfold Gives
  cases hx : l.any (fun d => !(termB d))
  · go_enter Tryz.func80, Tryz.ntmps80
    go_wp2_with (refine HC.out.use ?_; intro w1 hb1 hz1 hc1 hf1)
    go_ret
    exact ⟨ret_int (by rw [HD.out, hx]; rfl), hb1⟩
  · go_enter Tryz.func80, Tryz.ntmps80
    go_wp2_with (refine HC.out.use ?_; intro w1 hb1 hz1 hc1 hf1)
    go_ret
    exact ⟨ret_int (by rw [HD.out, hx]; rfl), hb1⟩
set_option maxHeartbeats 400000 in
theorem week_calls (v : Value) (c : Cal) (d : Int) (w : World) (h : CalAt w v c) (h1 : 0 ≤ c.first) (h2 : c.first ≤ 6) (h3 : 0 ≤ d) (h4 : d ≤ 1000000) :
    Gives Tryz.prog 163 #[v, .int .i64 d] w (.int .i64 (weekF c d)) := by
  obtain ⟨fa, fc, sa, sc, rfl, _, _, _, _, _, _⟩ := h.cells
  clear h
  unfold Gives
  go_enter Tryz.func163, Tryz.ntmps163
  go_wp2
  go_ret
  exact ⟨rfl, by (repeat' (first | exact Below.refl _ _ | assumption | refine below_new ?_ _ | refine below_draw ?_ | refine below_tail (by assumption) ?_ | refine below_set ?_ (by first | omega | (simp <;> omega)) _))⟩
set_option maxHeartbeats 400000 in
theorem isFree_calls (v : Value) (c : Cal) (d : Int) (w : World) (h : CalAt w v c) (h1 : 0 ≤ c.first) (h2 : c.first ≤ 6) (h3 : 0 ≤ d) (h4 : d ≤ 1000000) :
    Gives Tryz.prog 136 #[v, .int .i64 d] w (.bool (freeB c d)) := by
  obtain ⟨fa, fc, sa, sc, rfl, hf, hs, hfc, hsc, hfl, hsl⟩ := h.cells
  have HCal := Lib.hid h
  have HF := Lib.hid hf
  clear h hf hs
  unfold Gives
  cases hx : (weekF c d == 6)
  · go_enter Tryz.func136, Tryz.ntmps136
    go_wp2_with (first
      | (go_at_call 163; refine (week_calls _ c d _ (HCal.out.below (by (repeat' (first | exact Below.refl _ _ | assumption | refine below_new ?_ _ | refine below_draw ?_ | refine below_tail (by assumption) ?_ | refine below_set ?_ (by first | omega | (simp <;> omega)) _)))) h1 h2 h3 h4).use ?_; intro w1 hb1 hz1 hc1 hf1)
      | (go_at_call 164; refine (contains_ints _ c.free d _ (HF.out.below (by (repeat' (first | exact Below.refl _ _ | assumption | refine below_new ?_ _ | refine below_draw ?_ | refine below_tail (by assumption) ?_ | refine below_set ?_ (by first | omega | (simp <;> omega)) _))))).mono ?_; rintro e w' ⟨rfl, rfl⟩))
    go_ret
    exact ⟨ret_bool (by unfold freeB; rw [hx]; rfl), by (repeat' (first | exact Below.refl _ _ | assumption | refine below_new ?_ _ | refine below_draw ?_ | refine below_tail (by assumption) ?_ | refine below_set ?_ (by first | omega | (simp <;> omega)) _))⟩
  · go_enter Tryz.func136, Tryz.ntmps136
    go_wp2_with (first
      | (go_at_call 163; refine (week_calls _ c d _ (HCal.out.below (by (repeat' (first | exact Below.refl _ _ | assumption | refine below_new ?_ _ | refine below_draw ?_ | refine below_tail (by assumption) ?_ | refine below_set ?_ (by first | omega | (simp <;> omega)) _)))) h1 h2 h3 h4).use ?_; intro w1 hb1 hz1 hc1 hf1))
    go_ret
    exact ⟨ret_bool (by unfold freeB; rw [hx]; rfl), by (repeat' (first | exact Below.refl _ _ | assumption | refine below_new ?_ _ | refine below_draw ?_ | refine below_tail (by assumption) ?_ | refine below_set ?_ (by first | omega | (simp <;> omega)) _))⟩
set_option maxHeartbeats 400000 in
theorem isStill1_calls (s : Int × Int) (d : Int) (b : Nat) (w : World) (hc : w.cell? ⟨b, 0, none⟩ = some (.int .i64 d)) (hb : b < w.heap.size) :
    Gives Tryz.prog 162 #[.agg #[.int .i64 s.1, .int .i64 s.2], .pointer (some ⟨b, 0, none⟩)] w (.bool (withinB d s.1 s.2)) := by
  obtain ⟨s1, s2⟩ := s
  unfold Gives
  go_enter Tryz.func162, Tryz.ntmps162
  go_wp2_with (go_at_call 88; refine (within_calls _ _ _ _).mono ?_; rintro e w' ⟨rfl, rfl⟩)
  go_ret
  exact ⟨rfl, by (repeat' (first | exact Below.refl _ _ | assumption | refine below_new ?_ _ | refine below_draw ?_ | refine below_tail (by assumption) ?_ | refine below_set ?_ (by first | omega | (simp <;> omega)) _))⟩
set_option maxHeartbeats 400000 in
theorem isStill_calls (v : Value) (c : Cal) (d : Int) (w : World) (h : CalAt w v c) :
    Gives Tryz.prog 135 #[v, .int .i64 d] w (.bool (stillB c d)) := by
  obtain ⟨fa, fc, sa, sc, rfl, hf, hs, hfc, hsc, hfl, hsl⟩ := h.cells
  have HS := Lib.hid hs
  have HC : Hid (∀ W, Below w.heap.size w W → W.cell? ⟨w.heap.size + 1, 0, none⟩ = some (.int .i64 d) → w.heap.size + 1 < W.heap.size →
      Gives Tryz.prog 161 #[.slice sa c.still.length sc, .func (.func 162) #[] #[.pointer (some ⟨w.heap.size + 1, 0, none⟩)]] W (.bool (stillB c d))) := fun W hb hc hlt =>
    containsFunc_spans _ c.still 162 _ (fun s => withinB d s.1 s.2) W (hs.below hb) (fun _ _ => by kernel_rfl)
      (fun x w' hb' => isStill1_calls x d _ w' ((hb'.cell (p := ⟨w.heap.size + 1, 0, none⟩) hlt).trans hc) (Nat.lt_of_lt_of_le hlt hb'.size))
  clear h hf hs
  unfold Gives
  go_enter Tryz.func135, Tryz.ntmps135
  go_wp2_with (go_at_call 161; refine (HC.out _ (by (repeat' (first | exact Below.refl _ _ | assumption | refine below_new ?_ _ | refine below_draw ?_ | refine below_tail (by assumption) ?_ | refine below_set ?_ (by first | omega | (simp <;> omega)) _))) (by simp) (by simp)).use ?_; intro w1 hb1 hz1 hc1 hf1)
  go_ret
  exact ⟨rfl, by (repeat' (first | exact Below.refl _ _ | assumption | refine below_new ?_ _ | refine below_draw ?_ | refine below_tail (by assumption) ?_ | refine below_set ?_ (by first | omega | (simp <;> omega)) _))⟩
end Go.Proofs.YthooacpfmjpdmaaGreatDoor

namespace Go.Proofs.YthooacpfmjpdmaaGreatDoor
open Go.RowKit

theorem mixed : Tryz.prog.follows .mixedOrders = true := by kernel_rfl
set_option maxHeartbeats 1000000 in
set_option maxRecDepth 100000 in
theorem validate_calls (v : Value) (c : Cal) (w : World) (h : CalAt w v c) :
    Gives Tryz.prog 55 #[v] w (.int .i64 (validF c)) := by
  obtain ⟨fa, fc, sa, sc, rfl, hf, hs, hfc, hsc, hfl, hsl⟩ := h.cells
  have HF := Lib.hid hf
  have HS := Lib.hid hs
  clear h hf hs
  unfold Gives
  cases hw : withinB c.first 0 6
  · go_enter Tryz.func55, Tryz.ntmps55
    go_wp2_with (first
      | (go_at_call 88; refine (within_calls _ _ _ _).mono ?_; rintro e w' ⟨rfl, rfl⟩))
    go_ret
    exact ⟨ret_int (by unfold validF; rw [hw]; rfl), by (repeat' (first | exact Below.refl _ _ | assumption | refine below_new ?_ _ | refine below_draw ?_ | refine below_tail (by assumption) ?_ | refine below_set ?_ (by first | omega | (simp <;> omega)) _))⟩
  · by_cases hlf : 12 < c.free.length
    · have hlf1 : decide ((12 : Int) < (c.free.length : Int)) = true := by simp; omega
      go_enter Tryz.func55, Tryz.ntmps55
      go_wp2_with (first
        | (go_at_call 88; refine (within_calls _ _ _ _).mono ?_; rintro e w' ⟨rfl, rfl⟩))
      go_ret
      exact ⟨ret_int (by unfold validF; rw [hw]; simp [hlf]), by (repeat' (first | exact Below.refl _ _ | assumption | refine below_new ?_ _ | refine below_draw ?_ | refine below_tail (by assumption) ?_ | refine below_set ?_ (by first | omega | (simp <;> omega)) _))⟩
    · have hlf1 : decide ((12 : Int) < (c.free.length : Int)) = false := by simp; omega
      by_cases hls : 4 < c.still.length
      · have hls1 : decide ((4 : Int) < (c.still.length : Int)) = true := by simp; omega
        go_enter Tryz.func55, Tryz.ntmps55
        go_wp2_with (first
          | (go_at_call 88; refine (within_calls _ _ _ _).mono ?_; rintro e w' ⟨rfl, rfl⟩))
        go_ret
        exact ⟨ret_int (by unfold validF; rw [hw]; simp [hls]), by (repeat' (first | exact Below.refl _ _ | assumption | refine below_new ?_ _ | refine below_draw ?_ | refine below_tail (by assumption) ?_ | refine below_set ?_ (by first | omega | (simp <;> omega)) _))⟩
      · have hv : Hid (validF c = (if someFrom (badFree c.free) c.free.length 0 then 1 else if someFrom (badStill c.still) c.still.length 0 then 1 else 0)) := by
          unfold Hid validF; rw [hw]; simp [hls, hlf]
        have hls1 : decide ((4 : Int) < (c.still.length : Int)) = false := by simp; omega
        go_enter Tryz.func55, Tryz.ntmps55
        go_wp2_with (first
          | (go_at_call 88; refine (within_calls _ _ _ _).mono ?_; rintro e w' ⟨rfl, rfl⟩))
        go_loop [24] (fun i => ∃ k : Nat, k ≤ c.free.length ∧ i = .int .i64 k ∧ Hid (someFrom (badFree c.free) c.free.length 0 = someFrom (badFree c.free) c.free.length k)) (fun i => c.free.length - (intOf i).toNat)
        case atStart => exact ⟨0, Nat.zero_le _, rfl, rfl⟩
        case round =>
          obtain ⟨k, hk, rfl, hr⟩ := hrel
          by_cases hlt : k < c.free.length
          · have hcell0 := HF.out
            obtain ⟨fa', fc', e1, _, _, hcell0⟩ := hcell0
            simp only [Value.slice.injEq] at e1
            obtain ⟨rfl, _, rfl⟩ := e1
            have hprev := hcell0 (k - 1) (by omega)
            obtain ⟨b, o, rfl, hB, hcell⟩ := hcell0 k hlt
            clear hcell0
            obtain ⟨b', o', e1, _, hprev⟩ := hprev
            simp only [Option.some.injEq, Addr.mk.injEq, and_true] at e1
            obtain ⟨rfl, rfl⟩ := e1
            have HH : Hid (badFree c.free k = (!(withinB (gi c.free 0 k) 0 10000) || (decide (0 < k) && decide (gi c.free 0 k ≤ gi c.free 0 (k - 1))))) := rfl
            cases hx : withinB (gi c.free 0 k) 0 10000
            · have H1 := Lib.hid (someFrom_yes (p := badFree c.free) hlt (by rw [HH.out, hx]; rfl))
              go_wp2_with (go_at_call 88; refine (within_calls _ _ _ _).mono ?_; rintro e w' ⟨rfl, rfl⟩)
              go_ret
              exact ⟨ret_int (by rw [hv.out, hr.out, H1.out]; rfl), by (repeat' (first | exact Below.refl _ _ | assumption | refine below_new ?_ _ | refine below_draw ?_ | refine below_tail (by assumption) ?_ | refine below_set ?_ (by first | omega | (simp <;> omega)) _))⟩
            · by_cases hk0 : 0 < k
              · have hk1 : decide ((0 : Int) < (k : Int)) = true := by simpa using hk0
                have hk2 : (k : Int) - 1 = ((k - 1 : Nat) : Int) := by omega
                cases hy : decide (gi c.free 0 k ≤ gi c.free 0 (k - 1))
                · have H1 := Lib.hid (someFrom_no (p := badFree c.free) hlt (by rw [HH.out, hx, hy]; simp))
                  have H2 := Lib.hid hk2
                  clear hk2
                  go_wp2_with (go_at_call 88; refine (within_calls _ _ _ _).mono ?_; rintro e w' ⟨rfl, rfl⟩)
                  go_round
                  case rel => exact ⟨k + 1, by omega, by go_num, by unfold Hid; rw [hr.out, H1.out]⟩
                  case measure => simp [intOf]; omega
                · have H1 := Lib.hid (someFrom_yes (p := badFree c.free) hlt (by rw [HH.out, hx, hy]; simp [hk0]))
                  clear hk2
                  go_wp2_with (go_at_call 88; refine (within_calls _ _ _ _).mono ?_; rintro e w' ⟨rfl, rfl⟩)
                  go_ret
                  exact ⟨ret_int (by rw [hv.out, hr.out, H1.out]; rfl), by (repeat' (first | exact Below.refl _ _ | assumption | refine below_new ?_ _ | refine below_draw ?_ | refine below_tail (by assumption) ?_ | refine below_set ?_ (by first | omega | (simp <;> omega)) _))⟩
              · have hk1 : decide ((0 : Int) < (k : Int)) = false := by simp; omega
                have hk2 : decide (0 < k) = false := by simp; omega
                have H1 := Lib.hid (someFrom_no (p := badFree c.free) hlt (by rw [HH.out, hx, hk2]; simp))
                clear hk2
                go_wp2_with (go_at_call 88; refine (within_calls _ _ _ _).mono ?_; rintro e w' ⟨rfl, rfl⟩)
                go_round
                case rel => exact ⟨k + 1, by omega, by go_num, by unfold Hid; rw [hr.out, H1.out]⟩
                case measure => simp [intOf]; omega
          · have H1 := Lib.hid (hr.out.trans (someFrom_end (p := badFree c.free) hlt))
            clear hr
            go_wp2
            go_loopw [50] (fun i wr => ∃ k : Nat, k ≤ c.still.length ∧ i = .int .i64 k ∧ Hid (someFrom (badStill c.still) c.still.length 0 = someFrom (badStill c.still) c.still.length k) ∧
                Below (w.alloc (.cells #[.int .i64 c.first, .slice fa c.free.length fc, .slice sa c.still.length sc] 25)).heap.size (w.alloc (.cells #[.int .i64 c.first, .slice fa c.free.length fc, .slice sa c.still.length sc] 25)) wr)
              (fun i _ => c.still.length - (intOf i).toNat)
            case atStart => exact ⟨0, Nat.zero_le _, rfl, rfl, Below.refl _ _⟩
            case round =>
              obtain ⟨j, hj, rfl, hr, hb⟩ := hrel
              by_cases hjl : j < c.still.length
              · have hwr : w.heap.size < wr.heap.size := by have := hb.size; simp at this; omega
                have hcb : wr.cell? ⟨w.heap.size, 2, none⟩ = some (.slice sa c.still.length sc) := (hb.cell (p := ⟨w.heap.size, 2, none⟩) (by simp)).trans (by simp)
                obtain ⟨sa', sc', e1, _, _, hcell0⟩ := HS.out.below (w' := wr) (by (repeat' (first | exact Below.refl _ _ | assumption | refine below_new ?_ _ | refine below_draw ?_ | refine below_tail (by assumption) ?_ | refine below_set ?_ (by first | omega | (simp <;> omega)) _)))
                simp only [Value.slice.injEq] at e1
                obtain ⟨rfl, _, rfl⟩ := e1
                have hprev := hcell0 (j - 1) (by omega)
                obtain ⟨b, o, rfl, hB, hcell1, hcell2⟩ := hcell0 j hjl
                clear hcell0
                obtain ⟨b', o', e1, _, _, hprev⟩ := hprev
                simp only [Option.some.injEq, Addr.mk.injEq, and_true] at e1
                obtain ⟨rfl, rfl⟩ := e1
                have HH : Hid (badStill c.still j = (!(spanB (gi c.still (0, 0) j)) || (decide (0 < j) && decide ((gi c.still (0, 0) j).1 ≤ (gi c.still (0, 0) (j - 1)).2)))) := rfl
                cases hx : spanB (gi c.still (0, 0) j)
                · have H3 := Lib.hid (someFrom_yes (p := badStill c.still) hjl (by rw [HH.out, hx]; rfl))
                  have q0 := fun d os => cell_regrown (w := wr.alloc (.cells #[.int .i64 (gi c.still (0, 0) j).1, .int .i64 (gi c.still (0, 0) j).2] 66)) (a := ⟨wr.heap.size, 0, none⟩) (v := .int .i64 (gi c.still (0, 0) j).1) (by simp) d os
                  have q1 := fun d os => cell_regrown (w := wr.alloc (.cells #[.int .i64 (gi c.still (0, 0) j).1, .int .i64 (gi c.still (0, 0) j).2] 66)) (a := ⟨wr.heap.size, 1, none⟩) (v := .int .i64 (gi c.still (0, 0) j).2) (by simp) d os
                  go_wp2
                  refine wp_region_quiet_below mixed (by kernel_rfl) ?_
                  repeat (go_big_quiet_step ((go_at_call 89; exact Calls.regrown_of (isSpan_calls _ _))))
                  refine wpQuiet_nil ?_
                  rintro _ ⟨⟨dq, osq⟩, rfl⟩
                  have hbq := below_regrown (wr.alloc (.cells #[.int .i64 (gi c.still (0, 0) j).1, .int .i64 (gi c.still (0, 0) j).2] 66)) dq osq
                  clear q0 q1
                  revert hbq
                  generalize Go.Sort.grow (redrawn _ dq) osq = wq
                  intro hbq
                  go_wp2
                  go_ret
                  exact ⟨ret_int (by rw [hv.out, H1.out, hr.out, H3.out]; rfl), by (repeat' (first | exact Below.refl _ _ | assumption | refine below_new ?_ _ | refine below_draw ?_ | refine below_tail (by assumption) ?_ | refine below_set ?_ (by first | omega | (simp <;> omega)) _))⟩
                · by_cases hj0 : 0 < j
                  · have hj1 : decide ((0 : Int) < (j : Int)) = true := by simpa using hj0
                    have hj2 : (1 : Int) ≤ (j : Int) := by omega
                    cases hy : decide ((gi c.still (0, 0) j).1 ≤ (gi c.still (0, 0) (j - 1)).2)
                    · have H3 := Lib.hid (someFrom_no (p := badStill c.still) hjl (by rw [HH.out, hx, hy]; simp))
                      have q0 := fun d os => cell_regrown (w := wr.alloc (.cells #[.int .i64 (gi c.still (0, 0) j).1, .int .i64 (gi c.still (0, 0) j).2] 66)) (a := ⟨wr.heap.size, 0, none⟩) (v := .int .i64 (gi c.still (0, 0) j).1) (by simp) d os
                      have q1 := fun d os => cell_regrown (w := wr.alloc (.cells #[.int .i64 (gi c.still (0, 0) j).1, .int .i64 (gi c.still (0, 0) j).2] 66)) (a := ⟨wr.heap.size, 1, none⟩) (v := .int .i64 (gi c.still (0, 0) j).2) (by simp) d os
                      have q2 := fun d os => cell_regrown (w := wr.alloc (.cells #[.int .i64 (gi c.still (0, 0) j).1, .int .i64 (gi c.still (0, 0) j).2] 66)) (a := ⟨w.heap.size, 2, none⟩) (v := .slice (some ⟨b, o, none⟩) c.still.length sc) (((below_new (Below.refl _ wr) _).cell (p := ⟨w.heap.size, 2, none⟩) hwr).trans hcb) d os
                      have q3 := fun d os => cell_regrown (w := wr.alloc (.cells #[.int .i64 (gi c.still (0, 0) j).1, .int .i64 (gi c.still (0, 0) j).2] 66)) (a := ⟨b, o + (j - 1) * 2 + 1, none⟩) (v := .int .i64 (gi c.still (0, 0) (j - 1)).2) (((below_new (Below.refl _ wr) _).cell (p := ⟨b, o + (j - 1) * 2 + 1, none⟩) hB).trans hprev) d os
                      go_wp2
                      refine wp_region_quiet_below mixed (by kernel_rfl) ?_
                      repeat (go_big_quiet_step ((go_at_call 89; exact Calls.regrown_of (isSpan_calls _ _))))
                      refine wpQuiet_nil ?_
                      rintro _ ⟨⟨dq, osq⟩, rfl⟩
                      have hbq := below_regrown (wr.alloc (.cells #[.int .i64 (gi c.still (0, 0) j).1, .int .i64 (gi c.still (0, 0) j).2] 66)) dq osq
                      clear q0 q1 q2 q3
                      revert hbq
                      generalize Go.Sort.grow (redrawn _ dq) osq = wq
                      intro hbq
                      go_wp2
                      go_roundw
                      case rel => exact ⟨j + 1, by omega, by go_num, by unfold Hid; rw [hr.out, H3.out], by (repeat' (first | exact Below.refl _ _ | assumption | refine below_new ?_ _ | refine below_draw ?_ | refine below_tail (by assumption) ?_ | refine below_set ?_ (by first | omega | (simp <;> omega)) _))⟩
                      case measure => simp [intOf]; omega
                    · have H3 := Lib.hid (someFrom_yes (p := badStill c.still) hjl (by rw [HH.out, hx, hy]; simp [hj0]))
                      have q0 := fun d os => cell_regrown (w := wr.alloc (.cells #[.int .i64 (gi c.still (0, 0) j).1, .int .i64 (gi c.still (0, 0) j).2] 66)) (a := ⟨wr.heap.size, 0, none⟩) (v := .int .i64 (gi c.still (0, 0) j).1) (by simp) d os
                      have q1 := fun d os => cell_regrown (w := wr.alloc (.cells #[.int .i64 (gi c.still (0, 0) j).1, .int .i64 (gi c.still (0, 0) j).2] 66)) (a := ⟨wr.heap.size, 1, none⟩) (v := .int .i64 (gi c.still (0, 0) j).2) (by simp) d os
                      have q2 := fun d os => cell_regrown (w := wr.alloc (.cells #[.int .i64 (gi c.still (0, 0) j).1, .int .i64 (gi c.still (0, 0) j).2] 66)) (a := ⟨w.heap.size, 2, none⟩) (v := .slice (some ⟨b, o, none⟩) c.still.length sc) (((below_new (Below.refl _ wr) _).cell (p := ⟨w.heap.size, 2, none⟩) hwr).trans hcb) d os
                      have q3 := fun d os => cell_regrown (w := wr.alloc (.cells #[.int .i64 (gi c.still (0, 0) j).1, .int .i64 (gi c.still (0, 0) j).2] 66)) (a := ⟨b, o + (j - 1) * 2 + 1, none⟩) (v := .int .i64 (gi c.still (0, 0) (j - 1)).2) (((below_new (Below.refl _ wr) _).cell (p := ⟨b, o + (j - 1) * 2 + 1, none⟩) hB).trans hprev) d os
                      go_wp2
                      refine wp_region_quiet_below mixed (by kernel_rfl) ?_
                      repeat (go_big_quiet_step ((go_at_call 89; exact Calls.regrown_of (isSpan_calls _ _))))
                      refine wpQuiet_nil ?_
                      rintro _ ⟨⟨dq, osq⟩, rfl⟩
                      have hbq := below_regrown (wr.alloc (.cells #[.int .i64 (gi c.still (0, 0) j).1, .int .i64 (gi c.still (0, 0) j).2] 66)) dq osq
                      clear q0 q1 q2 q3
                      revert hbq
                      generalize Go.Sort.grow (redrawn _ dq) osq = wq
                      intro hbq
                      go_wp2
                      go_ret
                      exact ⟨ret_int (by rw [hv.out, H1.out, hr.out, H3.out]; rfl), by (repeat' (first | exact Below.refl _ _ | assumption | refine below_new ?_ _ | refine below_draw ?_ | refine below_tail (by assumption) ?_ | refine below_set ?_ (by first | omega | (simp <;> omega)) _))⟩
                  · have H3 := Lib.hid (someFrom_no (p := badStill c.still) hjl (by rw [HH.out, hx]; simp [hj0]))
                    have hj1 : decide ((0 : Int) < (j : Int)) = false := by simp; omega
                    have q0 := fun d os => cell_regrown (w := wr.alloc (.cells #[.int .i64 (gi c.still (0, 0) j).1, .int .i64 (gi c.still (0, 0) j).2] 66)) (a := ⟨wr.heap.size, 0, none⟩) (v := .int .i64 (gi c.still (0, 0) j).1) (by simp) d os
                    have q1 := fun d os => cell_regrown (w := wr.alloc (.cells #[.int .i64 (gi c.still (0, 0) j).1, .int .i64 (gi c.still (0, 0) j).2] 66)) (a := ⟨wr.heap.size, 1, none⟩) (v := .int .i64 (gi c.still (0, 0) j).2) (by simp) d os
                    go_wp2
                    refine wp_region_quiet_below mixed (by kernel_rfl) ?_
                    repeat (go_big_quiet_step ((go_at_call 89; exact Calls.regrown_of (isSpan_calls _ _))))
                    refine wpQuiet_nil ?_
                    rintro _ ⟨⟨dq, osq⟩, rfl⟩
                    have hbq := below_regrown (wr.alloc (.cells #[.int .i64 (gi c.still (0, 0) j).1, .int .i64 (gi c.still (0, 0) j).2] 66)) dq osq
                    clear q0 q1
                    revert hbq
                    generalize Go.Sort.grow (redrawn _ dq) osq = wq
                    intro hbq
                    go_wp2
                    go_roundw
                    case rel => exact ⟨j + 1, by omega, by go_num, by unfold Hid; rw [hr.out, H3.out], by (repeat' (first | exact Below.refl _ _ | assumption | refine below_new ?_ _ | refine below_draw ?_ | refine below_tail (by assumption) ?_ | refine below_set ?_ (by first | omega | (simp <;> omega)) _))⟩
                    case measure => simp [intOf]; omega
              · have H2 := Lib.hid (hr.out.trans (someFrom_end (p := badStill c.still) hjl))
                go_wp2
                go_ret
                exact ⟨ret_int (by rw [hv.out, H1.out, H2.out]; rfl), by (repeat' (first | exact Below.refl _ _ | assumption | refine below_new ?_ _ | refine below_draw ?_ | refine below_tail (by assumption) ?_ | refine below_set ?_ (by first | omega | (simp <;> omega)) _))⟩
end Go.Proofs.YthooacpfmjpdmaaGreatDoor

namespace Go.Proofs.YthooacpfmjpdmaaGreatDoor
open Go.RowKit

end Go.Proofs.YthooacpfmjpdmaaGreatDoor

namespace Go.Proofs.YthooacpfmjpdmaaGreatDoor
open Go.RowKit Go.Shelf
attribute [local go_sem] Oper.semAt_some

set_option maxHeartbeats 400000 in
theorem days_calls (d : Int) (w : World) :
    Calls Tryz.prog 134 #[.int .i64 d] w fun e w' => e = .returned (.func (.func 160) #[] #[.pointer (some ⟨w.heap.size, 0, none⟩)]) ∧ w.alloc (.cells #[.int .i64 d] 3) = w' := by
  go_enter Tryz.func134, Tryz.ntmps134
  go_wp2
  go_ret
  exact ⟨rfl, rfl⟩
set_option maxHeartbeats 400000 in
theorem days_iter (b : Nat) (d : Int) (h0 : 0 ≤ d) (h1 : d ≤ 1000000) :
    Iter Tryz.prog 160 #[.pointer (some ⟨b, 0, none⟩)] (fun k => #[.int .i64 (d + k)]) none (fun W => W.cell? ⟨b, 0, none⟩ = some (.int .i64 d)) := by
  intro n l J Jx W hR hJ hJx hY hN hJ0
  have hN := hN rfl
  have hc := hR 0 W hJ0
  refine callsIn_of_wp Tryz.func160 rfl trivial ?_ rfl
  simp only [Tryz.ntmps160, List.size_toArray, List.length_cons, List.length_nil, Nat.reduceAdd, Nat.reduceSub, Array.replicate_succ, Array.replicate_zero, List.push_toArray, List.append_toArray, List.nil_append, List.cons_append]
  have HJ0 := Lib.hid hJ0
  have HY := Lib.hid hY
  have HN := Lib.hid hN
  clear hJ0 hY hN hR hJ hJx
  gi_wp2
  gi_loopw [3] (fun p wr => ∃ k : Nat, p = .int .i64 (d + k) ∧ J k wr) (fun p _ => 2000000 - (intOf p).toNat)
  case atStart => exact ⟨0, by simp, HJ0.out⟩
  case round =>
    obtain ⟨k, rfl, hJk⟩ := hrel
    have hk := HN.out k wr hJk
    obtain ⟨fn, tmps, assign, body, hy, hRd⟩ := HY.out k wr hJk (fun m h => by cases h)
    gi_wp2
    refine ⟨fun h => (by cases h), ?_⟩
    refine hRd.mono ?_
    rintro e W3 (⟨rfl, hJ3⟩ | ⟨rfl, hJx3⟩)
    · gi_wp2
      go_roundw
      case rel => exact ⟨k + 1, by go_num, hJ3⟩
      case measure => simp [intOf]; omega
    · gi_wp2
      go_end0
      exact ⟨⟨_, rfl⟩, .inr ⟨k, hJx3⟩⟩
end Go.Proofs.YthooacpfmjpdmaaGreatDoor

namespace Go.Proofs.YthooacpfmjpdmaaGreatDoor
open Go.RowKit Go.Shelf
attribute [local go_sem] Oper.semAt_some

theorem endB_at (c : Cal) (day days : Int) (k : Nat) : endB c day days (day + k) = (decide (days ≤ cnt (fun y => !(stillB c y)) (day + 1) k) && !(freeB c (day + k))) := by
  unfold endB
  rw [show (day + (k : Int) - day).toNat = k by omega]
set_option maxHeartbeats 1600000 in
theorem ends_calls (v : Value) (c : Cal) (day days : Int) (w : World) (h : CalAt w v c) (hv : validF c = 0) (hv1 : 0 ≤ c.first) (hv2 : c.first ≤ 6) (h3 : 0 ≤ day) (h4 : day ≤ 100000) (h5 : 0 ≤ days) (h6 : days ≤ 4000) :
    Gives Tryz.prog 109 #[v, .int .i64 day, .int .i64 days] w (.int .i64 (endsF c day days)) := by
  obtain ⟨fa, fc, sa, sc, rfl, hf, hs, hfc, hsc, hfl, hsl⟩ := h.cells
  have HCal := Lib.hid h
  obtain ⟨M, hM, _, hMp⟩ := ends_some hv h3 h5 h6
  have HM := Lib.hid hMp
  clear h hf hs hv hMp
  unfold Gives
  refine (callsIn_wide (n := 9)).1 ?_
  refine callsIn_of_wp_marks Tryz.func109 rfl trivial ?_ rfl
  simp only [Tryz.ntmps109, List.size_toArray, List.length_cons, List.length_nil, Nat.reduceAdd, Nat.reduceSub, Array.replicate_succ, Array.replicate_zero, List.push_toArray, List.append_toArray, List.nil_append, List.cons_append]
  gi_wp2_with (refine ⟨trivial, ?_⟩; gi_at_call 134; refine (callsIn_wide.2 (days_calls _ _)).mono ?_; rintro e w' ⟨rfl, rfl⟩)
  obtain ⟨W0, hW0⟩ : ∃ W0, (((((w.alloc (.cells #[.int .i64 c.first, .slice fa c.free.length fc, .slice sa c.still.length sc] 25)).alloc (.cells #[.int .i64 day] 3)).alloc (.cells #[.int .i64 days] 3)).alloc (.cells #[.int .i64 0] 3)).alloc (.cells #[.int .i64 day] 3)) = W0 := ⟨_, rfl⟩
  rw [hW0]
  have hB0 : Below w.heap.size w W0 := by rw [← hW0]; (repeat' (first | exact Below.refl _ _ | assumption | refine below_new ?_ _ | refine below_draw ?_ | refine below_tail (by assumption) ?_ | refine below_set ?_ (by first | omega | (simp <;> omega)) _))
  have hsz : W0.heap.size = w.heap.size + 5 := by rw [← hW0]; simp
  have e0 : W0.cell? ⟨w.heap.size, 0, none⟩ = some (.int .i64 c.first) := by rw [← hW0]; simp [go_sem]
  have e1 : W0.cell? ⟨w.heap.size, 1, none⟩ = some (.slice fa c.free.length fc) := by rw [← hW0]; simp [go_sem]
  have e2 : W0.cell? ⟨w.heap.size, 2, none⟩ = some (.slice sa c.still.length sc) := by rw [← hW0]; simp [go_sem]
  have e3 : W0.cell? ⟨w.heap.size + 1, 0, none⟩ = some (.int .i64 day) := by rw [← hW0]; simp [go_sem]
  have e4 : W0.cell? ⟨w.heap.size + 2, 0, none⟩ = some (.int .i64 days) := by rw [← hW0]; simp [go_sem]
  have e5 : W0.frozen? ⟨w.heap.size + 2, 0, none⟩ = false := by rw [← hW0]; simp [go_sem]
  have e6 : W0.cell? ⟨w.heap.size + 3, 0, none⟩ = some (.int .i64 0) := by rw [← hW0]; simp [go_sem]
  have e7 : W0.frozen? ⟨w.heap.size + 3, 0, none⟩ = false := by rw [← hW0]; simp [go_sem]
  have e8 : W0.cell? ⟨w.heap.size + 4, 0, none⟩ = some (.int .i64 day) := by rw [← hW0]; simp [go_sem]
  clear hW0
  refine wide_rangeFunc (gf := 160) (lb := #[.pointer (some ⟨w.heap.size + 4, 0, none⟩)]) rfl (enters_of Tryz.func160 (by kernel_rfl) rfl) (days_iter (w.heap.size + 4) day h3 (by omega)) (fun _ => rfl)
    (fun k W => Below W0.heap.size (W0.setCell ⟨w.heap.size + 2, 0, none⟩ (.int .i64 (days - cnt (fun y => !(stillB c y)) (day + 1) (k - 1)))) W ∧ k ≤ M ∧ ∀ i : Nat, i < k → endB c day days (day + i) = false)
    (fun cd k W => cd = .ret ∧ k ≤ M ∧ endB c day days (day + k) = true ∧ (∀ i : Nat, i < k → endB c day days (day + i) = false) ∧
      ∃ x, Below W0.heap.size ((W0.setCell ⟨w.heap.size + 2, 0, none⟩ x).setCell ⟨w.heap.size + 3, 0, none⟩ (.int .i64 (day + k))) W)
    (fun k W h => (h.1.cell (p := ⟨w.heap.size + 4, 0, none⟩) (by dsimp only; omega)).trans (by simp [go_sem, e8]))
    (fun k W W' h hb => ⟨h.1.trans hb, h.2⟩)
    (fun cd k W W' h hb => ⟨h.1, h.2.1, h.2.2.1, h.2.2.2.1, by obtain ⟨x, hx⟩ := h.2.2.2.2; exact ⟨x, hx.trans hb⟩⟩)
    (fun _ k W h => by have := h.2.1; omega)
    ⟨by simpa [cnt] using below_set_same e4, Nat.zero_le _, fun i hi => absurd hi (by omega)⟩
    (fun k a' W => a' = { tmps := #[.agg #[.int .i64 c.first, .slice fa c.free.length fc, .slice sa c.still.length sc], .int .i64 day, .int .i64 days, .pointer (some ⟨w.heap.size, 0, none⟩), .pointer (some ⟨w.heap.size + 1, 0, none⟩), .pointer (some ⟨w.heap.size + 2, 0, none⟩), .pointer (some ⟨w.heap.size + 3, 0, none⟩), .int .i64 (day + k), .int .i64 day, .func (.func 160) #[] #[.pointer (some ⟨w.heap.size + 4, 0, none⟩)], .int .i64 (day + k), undef, undef, undef, undef, undef, undef, undef, undef, undef, undef, undef, undef, undef, undef, undef, undef, undef, undef, undef, undef, undef], defers := [] })
    (fun k a' W W' h _ => h) ?assign ?body ?done ?stop
  case assign =>
    intro l k W K hsW hI hm hK
    gi_wp2
    exact hK _ _ (KeepsOthers.refl _) hI rfl
  case body =>
    rintro l k a' W hl hr hsW ⟨hB, hk, hno⟩ rfl hm
    have hBw : Below w.heap.size w W := (below_set hB0 (p := ⟨w.heap.size + 2, 0, none⟩) (by dsimp only; omega) _).trans (hB.mono (by omega))
    have f0 := (hB.cell (p := ⟨w.heap.size, 0, none⟩) (by dsimp only; omega)).trans (by simp [go_sem]; exact e0)
    have f1 := (hB.cell (p := ⟨w.heap.size, 1, none⟩) (by dsimp only; omega)).trans (by simp [go_sem]; exact e1)
    have f2 := (hB.cell (p := ⟨w.heap.size, 2, none⟩) (by dsimp only; omega)).trans (by simp [go_sem]; exact e2)
    have f3 := (hB.cell (p := ⟨w.heap.size + 1, 0, none⟩) (by dsimp only; omega)).trans (by simp [go_sem]; exact e3)
    have f4 := (hB.cell (p := ⟨w.heap.size + 2, 0, none⟩) (by dsimp only; omega)).trans (World.cell?_setCell_same' _ _ _ (by rw [e4]; rfl))
    have f5 := (hB.frozen (p := ⟨w.heap.size + 2, 0, none⟩) (by dsimp only; omega)).trans (by simp [go_sem]; exact e5)
    have f6 := (hB.cell (p := ⟨w.heap.size + 3, 0, none⟩) (by dsimp only; omega)).trans (by simp [go_sem]; exact e6)
    have f7 := (hB.frozen (p := ⟨w.heap.size + 3, 0, none⟩) (by dsimp only; omega)).trans (by simp [go_sem]; exact e7)
    have HNo := Lib.hid hno
    have HB := Lib.hid hB
    clear hno
    have hE := Lib.hid (endB_at c day days k)
    have hc0 := cnt_nonneg (fun y => !(stillB c y)) (day + 1) (k - 1)
    have hc1 := cnt_le (fun y => !(stillB c y)) (day + 1) (k - 1)
    have hkM : endB c day days (day + k) = false → k + 1 ≤ M := fun hF => by
      have : k ≠ M := fun e => by have := HM.out; rw [← e, hF] at this; cases this
      omega
    have HKM := Lib.hid hkM
    clear hkM
    obtain ⟨q, hq⟩ : ∃ q, cnt (fun y => !(stillB c y)) (day + 1) (k - 1) = q := ⟨_, rfl⟩
    rw [hq] at f4 hc0 hc1
    have HQq := Lib.hid hq
    have HB2 : Hid (Below W0.heap.size (W0.setCell ⟨w.heap.size + 2, 0, none⟩ (.int .i64 (days - q))) W) := by unfold Hid; rw [← hq]; exact HB.out
    clear hq HB hB
    have HB := HB2
    clear HB2
    have hkM := HKM.out
    clear HKM
    by_cases hk0 : 0 < k
    · have hkb : decide ((0 : Int) < (k : Int)) = true := by simpa using hk0
      cases hS : stillB c (day + k)
      · have HC : Hid (cnt (fun y => !(stillB c y)) (day + 1) k = q + 1) := by
          unfold Hid
          rw [show k = (k - 1) + 1 by omega, cnt, HQq.out, show day + 1 + ((k - 1 : Nat) : Int) = day + k by omega, hS]; rfl
        have HQ : Hid (days - cnt (fun y => !(stillB c y)) (day + 1) (k + 1 - 1) = days - q - 1) := by unfold Hid; rw [Nat.add_sub_cancel, HC.out]; omega
        by_cases hL : days - q - 1 ≤ 0
        · have hLb : decide (days - q - 1 ≤ 0) = true := by simpa using hL
          cases hx : freeB c (day + k)
          · have hT : endB c day days (day + k) = true := by rw [hE.out, hx, HC.out]; simp; omega
            gi_wp2_with (first | (refine ⟨trivial, ?_⟩; gi_at_call 135; refine Calls.useR ((isStill_calls _ c (day + k) _ (HCal.out.below hBw)).use ?_); intro w1 hb1 hz1 hc1 hf1; have s0 := (hc1 w.heap.size 0 (by omega)).trans f0; have s1 := (hc1 w.heap.size 1 (by omega)).trans f1; have s2 := (hc1 w.heap.size 2 (by omega)).trans f2; have s4 := (hc1 (w.heap.size + 2) 0 (by omega)).trans f4; have s5 := (hf1 (w.heap.size + 2) 0 (by omega)).trans f5; have s6 := (hc1 (w.heap.size + 3) 0 (by omega)).trans f6; have s7 := (hf1 (w.heap.size + 3) 0 (by omega)).trans f7; clear hc1 hf1) | (refine ⟨trivial, ?_⟩; gi_at_call 136; refine Calls.useR ((isFree_calls _ c (day + k) _ (HCal.out.below (below_set (below_tail hb1 hBw) (p := ⟨w.heap.size + 2, 0, none⟩) (by dsimp only; omega) _)) hv1 hv2 (by omega) (by omega)).use ?_); intro w2 hb2 hz2 hc2 hf2; have r6 := (hc2 (w.heap.size + 3) 0 (by simp; omega)).trans (by simp [go_sem]; exact s6); have r7 := (hf2 (w.heap.size + 3) 0 (by simp; omega)).trans (by simp [go_sem]; exact s7); clear hc2 hf2) | (refine ⟨trivial, ?_⟩))
            exact ⟨(((keeps_of_below hb1).trans (KeepsOthers.setCell _ _ _)).trans (keeps_of_below hb2)).trans (KeepsOthers.setCell _ _ _), rfl, hk, hT, HNo.out, _, below_box0 ((below_box (HB.out.trans (hb1.mono hsW)) (.int .i64 (days - q - 1))).trans (hb2.mono (by simp; omega))) _⟩
          · have hF : endB c day days (day + k) = false := by rw [hE.out, hx]; simp
            gi_wp2_with (first | (refine ⟨trivial, ?_⟩; gi_at_call 135; refine Calls.useR ((isStill_calls _ c (day + k) _ (HCal.out.below hBw)).use ?_); intro w1 hb1 hz1 hc1 hf1; have s0 := (hc1 w.heap.size 0 (by omega)).trans f0; have s1 := (hc1 w.heap.size 1 (by omega)).trans f1; have s2 := (hc1 w.heap.size 2 (by omega)).trans f2; have s4 := (hc1 (w.heap.size + 2) 0 (by omega)).trans f4; have s5 := (hf1 (w.heap.size + 2) 0 (by omega)).trans f5; have s6 := (hc1 (w.heap.size + 3) 0 (by omega)).trans f6; have s7 := (hf1 (w.heap.size + 3) 0 (by omega)).trans f7; clear hc1 hf1) | (refine ⟨trivial, ?_⟩; gi_at_call 136; refine Calls.useR ((isFree_calls _ c (day + k) _ (HCal.out.below (below_set (below_tail hb1 hBw) (p := ⟨w.heap.size + 2, 0, none⟩) (by dsimp only; omega) _)) hv1 hv2 (by omega) (by omega)).use ?_); intro w2 hb2 hz2 hc2 hf2; have r6 := (hc2 (w.heap.size + 3) 0 (by simp; omega)).trans (by simp [go_sem]; exact s6); have r7 := (hf2 (w.heap.size + 3) 0 (by simp; omega)).trans (by simp [go_sem]; exact s7); clear hc2 hf2) | (refine ⟨trivial, ?_⟩))
            exact ⟨(((keeps_of_below hb1).trans (KeepsOthers.setCell _ _ _)).trans (keeps_of_below hb2)), by rw [HQ.out]; exact ((below_box (HB.out.trans (hb1.mono hsW)) (.int .i64 (days - q - 1))).trans (hb2.mono (by simp; omega))), hkM hF, fun i hi => (Nat.lt_succ_iff_lt_or_eq.1 hi).elim (HNo.out i) (fun e => e ▸ hF)⟩
        · have hLb : decide (days - q - 1 ≤ 0) = false := by simpa using hL
          have hF : endB c day days (day + k) = false := by
            have : decide (days ≤ cnt (fun y => !(stillB c y)) (day + 1) k) = false := by rw [HC.out]; simp; omega
            rw [hE.out, this]; rfl
          gi_wp2_with (first | (refine ⟨trivial, ?_⟩; gi_at_call 135; refine Calls.useR ((isStill_calls _ c (day + k) _ (HCal.out.below hBw)).use ?_); intro w1 hb1 hz1 hc1 hf1; have s0 := (hc1 w.heap.size 0 (by omega)).trans f0; have s1 := (hc1 w.heap.size 1 (by omega)).trans f1; have s2 := (hc1 w.heap.size 2 (by omega)).trans f2; have s4 := (hc1 (w.heap.size + 2) 0 (by omega)).trans f4; have s5 := (hf1 (w.heap.size + 2) 0 (by omega)).trans f5; have s6 := (hc1 (w.heap.size + 3) 0 (by omega)).trans f6; have s7 := (hf1 (w.heap.size + 3) 0 (by omega)).trans f7; clear hc1 hf1) | (refine ⟨trivial, ?_⟩))
          exact ⟨((keeps_of_below hb1).trans (KeepsOthers.setCell _ _ _)), by rw [HQ.out]; exact (below_box (HB.out.trans (hb1.mono hsW)) (.int .i64 (days - q - 1))), hkM hF, fun i hi => (Nat.lt_succ_iff_lt_or_eq.1 hi).elim (HNo.out i) (fun e => e ▸ hF)⟩
      · have HC : Hid (cnt (fun y => !(stillB c y)) (day + 1) k = q) := by
          unfold Hid
          rw [show k = (k - 1) + 1 by omega, cnt, HQq.out, show day + 1 + ((k - 1 : Nat) : Int) = day + k by omega, hS]; simp
        have HQ : Hid (days - cnt (fun y => !(stillB c y)) (day + 1) (k + 1 - 1) = days - q) := by unfold Hid; rw [Nat.add_sub_cancel, HC.out]
        by_cases hL : days - q ≤ 0
        · have hLb : decide (days - q ≤ 0) = true := by simpa using hL
          cases hx : freeB c (day + k)
          · have hT : endB c day days (day + k) = true := by rw [hE.out, hx, HC.out]; simp; omega
            gi_wp2_with (first | (refine ⟨trivial, ?_⟩; gi_at_call 135; refine Calls.useR ((isStill_calls _ c (day + k) _ (HCal.out.below hBw)).use ?_); intro w1 hb1 hz1 hc1 hf1; have s0 := (hc1 w.heap.size 0 (by omega)).trans f0; have s1 := (hc1 w.heap.size 1 (by omega)).trans f1; have s2 := (hc1 w.heap.size 2 (by omega)).trans f2; have s4 := (hc1 (w.heap.size + 2) 0 (by omega)).trans f4; have s5 := (hf1 (w.heap.size + 2) 0 (by omega)).trans f5; have s6 := (hc1 (w.heap.size + 3) 0 (by omega)).trans f6; have s7 := (hf1 (w.heap.size + 3) 0 (by omega)).trans f7; clear hc1 hf1) | (refine ⟨trivial, ?_⟩; gi_at_call 136; refine Calls.useR ((isFree_calls _ c (day + k) _ (HCal.out.below (below_tail hb1 hBw)) hv1 hv2 (by omega) (by omega)).use ?_); intro w2 hb2 hz2 hc2 hf2; have r6 := (hc2 (w.heap.size + 3) 0 (by omega)).trans s6; have r7 := (hf2 (w.heap.size + 3) 0 (by omega)).trans s7; clear hc2 hf2) | (refine ⟨trivial, ?_⟩))
            exact ⟨((keeps_of_below hb1).trans (keeps_of_below hb2)).trans (KeepsOthers.setCell _ _ _), rfl, hk, hT, HNo.out, _, below_box0 ((HB.out.trans (hb1.mono hsW)).trans (hb2.mono (by omega))) _⟩
          · have hF : endB c day days (day + k) = false := by rw [hE.out, hx]; simp
            gi_wp2_with (first | (refine ⟨trivial, ?_⟩; gi_at_call 135; refine Calls.useR ((isStill_calls _ c (day + k) _ (HCal.out.below hBw)).use ?_); intro w1 hb1 hz1 hc1 hf1; have s0 := (hc1 w.heap.size 0 (by omega)).trans f0; have s1 := (hc1 w.heap.size 1 (by omega)).trans f1; have s2 := (hc1 w.heap.size 2 (by omega)).trans f2; have s4 := (hc1 (w.heap.size + 2) 0 (by omega)).trans f4; have s5 := (hf1 (w.heap.size + 2) 0 (by omega)).trans f5; have s6 := (hc1 (w.heap.size + 3) 0 (by omega)).trans f6; have s7 := (hf1 (w.heap.size + 3) 0 (by omega)).trans f7; clear hc1 hf1) | (refine ⟨trivial, ?_⟩; gi_at_call 136; refine Calls.useR ((isFree_calls _ c (day + k) _ (HCal.out.below (below_tail hb1 hBw)) hv1 hv2 (by omega) (by omega)).use ?_); intro w2 hb2 hz2 hc2 hf2; have r6 := (hc2 (w.heap.size + 3) 0 (by omega)).trans s6; have r7 := (hf2 (w.heap.size + 3) 0 (by omega)).trans s7; clear hc2 hf2) | (refine ⟨trivial, ?_⟩))
            exact ⟨((keeps_of_below hb1).trans (keeps_of_below hb2)), by rw [HQ.out]; exact ((HB.out.trans (hb1.mono hsW)).trans (hb2.mono (by omega))), hkM hF, fun i hi => (Nat.lt_succ_iff_lt_or_eq.1 hi).elim (HNo.out i) (fun e => e ▸ hF)⟩
        · have hLb : decide (days - q ≤ 0) = false := by simpa using hL
          have hF : endB c day days (day + k) = false := by
            have : decide (days ≤ cnt (fun y => !(stillB c y)) (day + 1) k) = false := by rw [HC.out]; simp; omega
            rw [hE.out, this]; rfl
          gi_wp2_with (first | (refine ⟨trivial, ?_⟩; gi_at_call 135; refine Calls.useR ((isStill_calls _ c (day + k) _ (HCal.out.below hBw)).use ?_); intro w1 hb1 hz1 hc1 hf1; have s0 := (hc1 w.heap.size 0 (by omega)).trans f0; have s1 := (hc1 w.heap.size 1 (by omega)).trans f1; have s2 := (hc1 w.heap.size 2 (by omega)).trans f2; have s4 := (hc1 (w.heap.size + 2) 0 (by omega)).trans f4; have s5 := (hf1 (w.heap.size + 2) 0 (by omega)).trans f5; have s6 := (hc1 (w.heap.size + 3) 0 (by omega)).trans f6; have s7 := (hf1 (w.heap.size + 3) 0 (by omega)).trans f7; clear hc1 hf1) | (refine ⟨trivial, ?_⟩))
          exact ⟨(keeps_of_below hb1), by rw [HQ.out]; exact (HB.out.trans (hb1.mono hsW)), hkM hF, fun i hi => (Nat.lt_succ_iff_lt_or_eq.1 hi).elim (HNo.out i) (fun e => e ▸ hF)⟩
    · have hkb : decide ((0 : Int) < (k : Int)) = false := by simp; omega
      have HC : Hid (cnt (fun y => !(stillB c y)) (day + 1) k = q) := by
        unfold Hid; rw [← HQq.out, show k - 1 = k by omega]
      have HQ : Hid (days - cnt (fun y => !(stillB c y)) (day + 1) (k + 1 - 1) = days - q) := by unfold Hid; rw [Nat.add_sub_cancel, HC.out]
      by_cases hL : days - q ≤ 0
      · have hLb : decide (days - q ≤ 0) = true := by simpa using hL
        cases hx : freeB c (day + k)
        · have hT : endB c day days (day + k) = true := by rw [hE.out, hx, HC.out]; simp; omega
          gi_wp2_with (first | (refine ⟨trivial, ?_⟩; gi_at_call 136; refine Calls.useR ((isFree_calls _ c (day + k) _ (HCal.out.below hBw) hv1 hv2 (by omega) (by omega)).use ?_); intro w2 hb2 hz2 hc2 hf2; have r6 := (hc2 (w.heap.size + 3) 0 (by omega)).trans f6; have r7 := (hf2 (w.heap.size + 3) 0 (by omega)).trans f7; clear hc2 hf2) | (refine ⟨trivial, ?_⟩))
          exact ⟨(keeps_of_below hb2).trans (KeepsOthers.setCell _ _ _), rfl, hk, hT, HNo.out, _, below_box0 (HB.out.trans (hb2.mono hsW)) _⟩
        · have hF : endB c day days (day + k) = false := by rw [hE.out, hx]; simp
          gi_wp2_with (first | (refine ⟨trivial, ?_⟩; gi_at_call 136; refine Calls.useR ((isFree_calls _ c (day + k) _ (HCal.out.below hBw) hv1 hv2 (by omega) (by omega)).use ?_); intro w2 hb2 hz2 hc2 hf2; have r6 := (hc2 (w.heap.size + 3) 0 (by omega)).trans f6; have r7 := (hf2 (w.heap.size + 3) 0 (by omega)).trans f7; clear hc2 hf2) | (refine ⟨trivial, ?_⟩))
          exact ⟨(keeps_of_below hb2), by rw [HQ.out]; exact (HB.out.trans (hb2.mono hsW)), hkM hF, fun i hi => (Nat.lt_succ_iff_lt_or_eq.1 hi).elim (HNo.out i) (fun e => e ▸ hF)⟩
      · have hLb : decide (days - q ≤ 0) = false := by simpa using hL
        have hF : endB c day days (day + k) = false := by
          have : decide (days ≤ cnt (fun y => !(stillB c y)) (day + 1) k) = false := by rw [HC.out]; simp; omega
          rw [hE.out, this]; rfl
        gi_wp2_with (refine ⟨trivial, ?_⟩)
        exact ⟨(KeepsOthers.refl _), by rw [HQ.out]; first | exact HB.out | (rw [← hsz]; exact HB.out), hkM hF, fun i hi => (Nat.lt_succ_iff_lt_or_eq.1 hi).elim (HNo.out i) (fun e => e ▸ hF)⟩
  case done => rintro m D W hm; cases hm
  case stop =>
    rintro D cd k W hD ⟨rfl, hk, hp, hno, x, hB⟩ hK
    have hfd : endsF c day days = day + k := firstDay_eq k 20000 day hno hp (by omega)
    gi_wp2
    refine ⟨by simp, .inl ⟨_, _, rfl, run_takeDeferred hK, ?_⟩⟩
    have hsW : W0.heap.size ≤ W.heap.size := by have := hB.size; simpa [World.setCell] using this
    have hP := below_obj (B := W0.heap.size) (W := W) (.deferred none) hD hsW
    have hr3 : (W.putObj D (.deferred none)).cell? ⟨w.heap.size + 3, 0, none⟩ = some (.int .i64 (day + k)) := by
      rw [(hB.trans hP).cell (p := ⟨w.heap.size + 3, 0, none⟩) (by dsimp only; omega)]
      exact World.cell?_setCell_same' _ _ _ (by simp [go_sem, e6])
    refine ⟨.int .i64 (day + k), ?_, by rw [hfd], ?_⟩
    · simp [results, Tryz.f109, go_sem, hr3]
    · exact (below_set (below_set hB0 (p := ⟨w.heap.size + 2, 0, none⟩) (by dsimp only; omega) x) (p := ⟨w.heap.size + 3, 0, none⟩) (by dsimp only; omega) _).trans ((hB.trans hP).mono (by omega))
end Go.Proofs.YthooacpfmjpdmaaGreatDoor

namespace Go.Proofs.YthooacpfmjpdmaaGreatDoor
open Go.RowKit

end Go.Proofs.YthooacpfmjpdmaaGreatDoor

namespace Go.Proofs.YthooacpfmjpdmaaGreatDoor
open Go.RowKit

end Go.Proofs.YthooacpfmjpdmaaGreatDoor

namespace Go.Proofs.YthooacpfmjpdmaaGreatDoor
open Go.RowKit

set_option maxHeartbeats 1000000 in
theorem termed_calls (v tv : Value) (c : Cal) (d : Int) (ts : List Int) (w : World) (h : CalAt w v c) (ht : IntsAt w tv ts) :
    Gives Tryz.prog 111 #[v, .int .i64 d, tv] w (.int .i64 (askedF c [d] ts)) := by
  obtain ⟨fa, fc, sa, sc, rfl, hf, hs, hfc, hsc, hfl, hsl⟩ := h.cells
  have HT := Lib.hid ht
  obtain ⟨ta, tc, rfl, _, _, _⟩ := ht
  have HCal := Lib.hid h
  clear h hf hs
  unfold Gives
  go_enter Tryz.func111, Tryz.ntmps111
  go_wp2_with (first
    | (go_at_call 55; refine (validate_calls _ c _ (HCal.out.below (by (repeat' (first | exact Below.refl _ _ | assumption | refine below_new ?_ _ | refine below_draw ?_ | refine below_tail (by assumption) ?_ | refine below_set ?_ (by first | omega | (simp <;> omega)) _))))).use ?_; intro w1 hb1 hz1 hc1 hf1; (try simp at hz1); have hy1 : w.heap.size < w1.heap.size := (by omega); have hx1 := fun o => hc1 w.heap.size o (by first | omega | (simp <;> omega)))
    | (go_at_call 79; refine (areDays_calls _ [d] _ (ints1 (by simp))).use ?_; intro w2 hb2 hz2 hc2 hf2; (try simp at hz2); have hy2 : w.heap.size < w2.heap.size := (by omega); have hx2 := fun o => hc2 w.heap.size o (by first | omega | (simp <;> omega)))
    | (go_at_call 80; refine (areTerms_calls _ ts _ (HT.out.below (by (repeat' (first | exact Below.refl _ _ | assumption | refine below_new ?_ _ | refine below_draw ?_ | refine below_tail (by assumption) ?_ | refine below_set ?_ (by first | omega | (simp <;> omega)) _))))).use ?_; intro w3 hb3 hz3 hc3 hf3; (try simp at hz3); have hy3 : w.heap.size < w3.heap.size := (by omega); have hx3 := fun o => hc3 w.heap.size o (by first | omega | (simp <;> omega)))
    | (go_at_call 78; refine (or_is _ [validF c, daysF [d], termsF ts] (askedF c [d] ts) _ (ints3 (by simp)) (by rw [orFrom_3]; rfl)).mono ?_; rintro e w' ⟨rfl, rfl⟩))
  go_ret
  exact ⟨rfl, by (repeat' (first | exact Below.refl _ _ | assumption | refine below_new ?_ _ | refine below_draw ?_ | refine below_tail (by assumption) ?_ | refine below_set ?_ (by first | omega | (simp <;> omega)) _))⟩
end Go.Proofs.YthooacpfmjpdmaaGreatDoor

namespace Go.Proofs.YthooacpfmjpdmaaGreatDoor
open Go.RowKit

/-- What a valid question says of its numbers. -/
theorem valid_first {c : Cal} (h : validF c = 0) : 0 ≤ c.first ∧ c.first ≤ 6 := by
  unfold validF at h
  by_cases hw : withinB c.first 0 6 = true
  · exact withinB_iff.1 hw
  · simp [hw] at h
theorem daysF_all {l : List Int} (h : daysF l = 0) : ∀ d ∈ l, 0 ≤ d ∧ d ≤ 10000 := by
  intro d hd
  unfold daysF at h
  cases ha : l.any (fun d => !(dayB d))
  · rw [List.any_eq_false] at ha
    exact withinB_iff.1 (by simpa [dayB] using ha d hd)
  · rw [ha] at h; exact absurd h (by decide)
theorem termsF_all {l : List Int} (h : termsF l = 0) : ∀ d ∈ l, 0 ≤ d ∧ d ≤ 400 := by
  intro d hd
  unfold termsF at h
  cases ha : l.any (fun d => !(termB d))
  · rw [List.any_eq_false] at ha
    exact withinB_iff.1 (by simpa [termB] using ha d hd)
  · rw [ha] at h; exact absurd h (by decide)
theorem asked_all {c : Cal} {ds ts : List Int} (h : askedF c ds ts = 0) : validF c = 0 ∧ daysF ds = 0 ∧ termsF ts = 0 := by
  unfold askedF at h
  by_cases hv : validF c = 0
  · rw [if_pos hv] at h
    by_cases hd : daysF ds = 0
    · rw [if_pos hd] at h; exact ⟨hv, hd, h⟩
    · rw [if_neg hd] at h; exact absurd h hd
  · rw [if_neg hv] at h; exact absurd h hv
theorem asked_term {c : Cal} {d n : Int} (h : askedF c [d] [n] = 0) : validF c = 0 ∧ 0 ≤ d ∧ d ≤ 10000 ∧ 0 ≤ n ∧ n ≤ 400 := by
  obtain ⟨h1, h2, h3⟩ := asked_all h
  have ha := daysF_all h2 d (by simp)
  have hb := termsF_all h3 n (by simp)
  exact ⟨h1, ha.1, ha.2, hb.1, hb.2⟩
set_option maxHeartbeats 1000000 in
theorem Ends_calls (v : Value) (c : Cal) (d n : Int) (w : World) (h : CalAt w v c) :
    Gives Tryz.prog 84 #[v, .int .i64 d, .int .i64 n] w (.tuple #[.int .i64 (endsR c d n), .int .i64 (askedF c [d] [n])]) := by
  obtain ⟨fa, fc, sa, sc, rfl, hf, hs, hfc, hsc, hfl, hsl⟩ := h.cells
  have HCal := Lib.hid h
  clear h hf hs
  unfold Gives
  have HR0 : Hid (endsR c d n = if askedF c [d] [n] = 0 then endsF c d n else 0) := rfl
  by_cases hz : askedF c [d] [n] = 0
  · have Hz := Lib.hid hz
    have hz1 : (askedF c [d] [n] == 0) = true := by simpa using hz
    have hz2 : (askedF c [d] [n] != 0) = false := by simpa using hz
    obtain ⟨hv, hd1, hd2, hn1, hn2⟩ := asked_term hz
    obtain ⟨hv1, hv2⟩ := valid_first hv
    have HV := Lib.hid hv
    clear hv
    clear hz
    go_enter Tryz.func84, Tryz.ntmps84
    go_wp2_with (first | (go_at_call 111; refine (termed_calls _ _ c d [n] _ (HCal.out.below (by (repeat' (first | exact Below.refl _ _ | assumption | refine below_new ?_ _ | refine below_draw ?_ | refine below_tail (by assumption) ?_ | refine below_set ?_ (by first | omega | (simp <;> omega)) _)))) (ints1 (by simp))).use ?_; intro w1 hb1 hz1 hc1 hf1; (try simp at hz1); have hy1 : w.heap.size < w1.heap.size := (by omega); have hx1 := fun o => hc1 w.heap.size o (by first | omega | (simp <;> omega))) | (go_at_call 109; refine (ends_calls _ c d n _ (HCal.out.below (by (repeat' (first | exact Below.refl _ _ | assumption | refine below_new ?_ _ | refine below_draw ?_ | refine below_tail (by assumption) ?_ | refine below_set ?_ (by first | omega | (simp <;> omega)) _)))) HV.out hv1 hv2 hd1 (by omega) hn1 (by omega)).use ?_; intro w3 hb3 hz3 hc3 hf3))
    go_ret2
    exact ⟨by rw [HR0.out, if_pos Hz.out, Hz.out]; rfl, by (repeat' (first | exact Below.refl _ _ | assumption | refine below_new ?_ _ | refine below_draw ?_ | refine below_tail (by assumption) ?_ | refine below_set ?_ (by first | omega | (simp <;> omega)) _))⟩
  · have Hz := Lib.hid hz
    have hz1 : (askedF c [d] [n] == 0) = false := by simpa using hz
    have hz2 : (askedF c [d] [n] != 0) = true := by simpa using hz
    clear hz
    go_enter Tryz.func84, Tryz.ntmps84
    go_wp2_with (first | (go_at_call 111; refine (termed_calls _ _ c d [n] _ (HCal.out.below (by (repeat' (first | exact Below.refl _ _ | assumption | refine below_new ?_ _ | refine below_draw ?_ | refine below_tail (by assumption) ?_ | refine below_set ?_ (by first | omega | (simp <;> omega)) _)))) (ints1 (by simp))).use ?_; intro w1 hb1 hz1 hc1 hf1; (try simp at hz1); have hy1 : w.heap.size < w1.heap.size := (by omega); have hx1 := fun o => hc1 w.heap.size o (by first | omega | (simp <;> omega))))
    go_ret2
    exact ⟨by rw [HR0.out, if_neg Hz.out]; rfl, by (repeat' (first | exact Below.refl _ _ | assumption | refine below_new ?_ _ | refine below_draw ?_ | refine below_tail (by assumption) ?_ | refine below_set ?_ (by first | omega | (simp <;> omega)) _))⟩
end Go.Proofs.YthooacpfmjpdmaaGreatDoor

namespace Go.Proofs.YthooacpfmjpdmaaGreatDoor
open Go.RowKit

end Go.Proofs.YthooacpfmjpdmaaGreatDoor

namespace Go.Proofs.YthooacpfmjpdmaaGreatDoor
open Go.RowKit
end Go.Proofs.YthooacpfmjpdmaaGreatDoor

namespace Go.Proofs.YthooacpfmjpdmaaGreatDoor
open Go.RowKit

def inF (c : Cal) (h n x : Int) : Bool := withinB x h (endsF c h n)
def inR (c : Cal) (h n x : Int) : Bool := if askedF c [h, x] [n] = 0 then inF c h n x else false
theorem asked_in {c : Cal} {h x n : Int} (hz : askedF c [h, x] [n] = 0) : validF c = 0 ∧ 0 ≤ h ∧ h ≤ 10000 ∧ 0 ≤ x ∧ x ≤ 10000 ∧ 0 ≤ n ∧ n ≤ 400 := by
  obtain ⟨h1, h2, h3⟩ := asked_all hz
  have ha := daysF_all h2 h (by simp)
  have hb := daysF_all h2 x (by simp)
  have hc := termsF_all h3 n (by simp)
  exact ⟨h1, ha.1, ha.2, hb.1, hb.2, hc.1, hc.2⟩
theorem askedF_or3 (c : Cal) (ds ts : List Int) : orFrom [validF c, daysF ds, termsF ts] 0 = askedF c ds ts := by
  rw [orFrom_3]; rfl
set_option maxHeartbeats 1000000 in
theorem inTime_calls (v : Value) (c : Cal) (h n x : Int) (w : World) (hc : CalAt w v c) (hv : validF c = 0) (h1 : 0 ≤ h) (h2 : h ≤ 100000) (h3 : 0 ≤ n) (h4 : n ≤ 4000) :
    Gives Tryz.prog 81 #[v, .int .i64 h, .int .i64 n, .int .i64 x] w (.bool (inF c h n x)) := by
  obtain ⟨fa, fc, sa, sc, rfl, hf, hs, hfc, hsc, hfl, hsl⟩ := hc.cells
  have HCal := Lib.hid hc
  obtain ⟨hv1, hv2⟩ := valid_first hv
  have HV := Lib.hid hv
  clear hc hf hs hv
  unfold Gives
  go_enter Tryz.func81, Tryz.ntmps81
  go_wp2_with (first
    | (go_at_call 109; (with_reducible refine (ends_calls _ c h n _ (HCal.out.below (by (repeat' (first | exact Below.refl _ _ | assumption | refine below_new ?_ _ | refine below_draw ?_ | refine below_tail (by assumption) ?_ | refine below_set ?_ (by first | omega | (simp <;> omega)) _)))) HV.out hv1 hv2 h1 h2 h3 h4).use ?_); intro w1 hb1 hz1 hc1 hf1)
    | (go_at_call 88; refine (within_calls _ _ _ _).mono ?_; rintro e w' ⟨rfl, rfl⟩))
  go_ret
  exact ⟨rfl, by (repeat' (first | exact Below.refl _ _ | assumption | refine below_new ?_ _ | refine below_draw ?_ | refine below_tail (by assumption) ?_ | refine below_set ?_ (by first | omega | (simp <;> omega)) _))⟩
set_option maxHeartbeats 2000000 in
set_option maxRecDepth 100000 in
theorem InTime_calls (v : Value) (c : Cal) (h n x : Int) (w : World) (hcal : CalAt w v c) :
    Gives Tryz.prog 50 #[v, .int .i64 h, .int .i64 n, .int .i64 x] w (.tuple #[.bool (inR c h n x), .int .i64 (askedF c [h, x] [n])]) := by
  obtain ⟨fa, fc, sa, sc, rfl, hf, hs, hfc, hsc, hfl, hsl⟩ := hcal.cells
  have HCal := Lib.hid hcal
  clear hcal hf hs
  unfold Gives
  have HR0 : Hid (inR c h n x = if askedF c [h, x] [n] = 0 then inF c h n x else false) := rfl
  by_cases hz : askedF c [h, x] [n] = 0
  · have Hz := Lib.hid hz
    have hz1 : (askedF c [h, x] [n] == 0) = true := by simpa using hz
    have hz2 : (askedF c [h, x] [n] != 0) = false := by simpa using hz
    obtain ⟨hv, hd1, hd2, hx1, hx2, hn1, hn2⟩ := asked_in hz
    obtain ⟨hv1, hv2⟩ := valid_first hv
    have HV := Lib.hid hv
    clear hv hz
    go_enter Tryz.func50, Tryz.ntmps50
    go_wp2_with (first | (go_at_call 55; (with_reducible refine (validate_calls _ c _ (HCal.out.below (by (repeat' (first | exact Below.refl _ _ | assumption | refine below_new ?_ _ | refine below_draw ?_ | refine below_tail (by assumption) ?_ | refine below_set ?_ (by first | omega | (simp <;> omega)) _))))).use ?_); intro w1 hb1 hz1 hc1 hf1; (try simp at hz1); have hy1 : w.heap.size < w1.heap.size := (by omega); have hx10 := fun o => hc1 (w.heap.size) o (by first | omega | (simp <;> omega)); clear hc1 hf1) | (go_at_call 79; (with_reducible refine (areDays_calls _ [h, x] _ (ints2 (by simp))).use ?_); intro w2 hb2 hz2 hc2 hf2; (try simp at hz2); have hy2 : w.heap.size < w2.heap.size := (by omega); have hx20 := fun o => hc2 (w.heap.size) o (by first | omega | (simp <;> omega)); clear hc2 hf2) | (go_at_call 80; (with_reducible refine (areTerms_calls _ [n] _ (ints1 (by simp))).use ?_); intro w3 hb3 hz3 hc3 hf3; (try simp at hz3); have hy3 : w.heap.size < w3.heap.size := (by omega); have hx30 := fun o => hc3 (w.heap.size) o (by first | omega | (simp <;> omega)); clear hc3 hf3) | (go_at_call 78; refine (or_is _ [validF c, daysF [h, x], termsF [n]] (askedF c [h, x] [n]) _ (ints3 (by simp)) (askedF_or3 _ _ _)).mono ?_; rintro e w' ⟨rfl, rfl⟩) | (go_at_call 81; (with_reducible refine (inTime_calls _ c h n x _ (HCal.out.below (by (repeat' (first | exact Below.refl _ _ | assumption | refine below_new ?_ _ | refine below_draw ?_ | refine below_tail (by assumption) ?_ | refine below_set ?_ (by first | omega | (simp <;> omega)) _)))) HV.out hd1 (by omega) hn1 (by omega)).use ?_); intro w4 hb4 hz4 hc4 hf4))
    go_ret2
    exact ⟨by rw [HR0.out, if_pos Hz.out, Hz.out]; rfl, by (repeat' (first | exact Below.refl _ _ | assumption | refine below_new ?_ _ | refine below_draw ?_ | refine below_tail (by assumption) ?_ | refine below_set ?_ (by first | omega | (simp <;> omega)) _))⟩
  · have Hz := Lib.hid hz
    have hz1 : (askedF c [h, x] [n] == 0) = false := by simpa using hz
    have hz2 : (askedF c [h, x] [n] != 0) = true := by simpa using hz
    clear hz
    go_enter Tryz.func50, Tryz.ntmps50
    go_wp2_with (first | (go_at_call 55; (with_reducible refine (validate_calls _ c _ (HCal.out.below (by (repeat' (first | exact Below.refl _ _ | assumption | refine below_new ?_ _ | refine below_draw ?_ | refine below_tail (by assumption) ?_ | refine below_set ?_ (by first | omega | (simp <;> omega)) _))))).use ?_); intro w1 hb1 hz1 hc1 hf1; (try simp at hz1); have hy1 : w.heap.size < w1.heap.size := (by omega); have hx10 := fun o => hc1 (w.heap.size) o (by first | omega | (simp <;> omega)); clear hc1 hf1) | (go_at_call 79; (with_reducible refine (areDays_calls _ [h, x] _ (ints2 (by simp))).use ?_); intro w2 hb2 hz2 hc2 hf2; (try simp at hz2); have hy2 : w.heap.size < w2.heap.size := (by omega); have hx20 := fun o => hc2 (w.heap.size) o (by first | omega | (simp <;> omega)); clear hc2 hf2) | (go_at_call 80; (with_reducible refine (areTerms_calls _ [n] _ (ints1 (by simp))).use ?_); intro w3 hb3 hz3 hc3 hf3; (try simp at hz3); have hy3 : w.heap.size < w3.heap.size := (by omega); have hx30 := fun o => hc3 (w.heap.size) o (by first | omega | (simp <;> omega)); clear hc3 hf3) | (go_at_call 78; refine (or_is _ [validF c, daysF [h, x], termsF [n]] (askedF c [h, x] [n]) _ (ints3 (by simp)) (askedF_or3 _ _ _)).mono ?_; rintro e w' ⟨rfl, rfl⟩))
    go_ret2
    exact ⟨by rw [HR0.out, if_neg Hz.out]; rfl, by (repeat' (first | exact Below.refl _ _ | assumption | refine below_new ?_ _ | refine below_draw ?_ | refine below_tail (by assumption) ?_ | refine below_set ?_ (by first | omega | (simp <;> omega)) _))⟩
end Go.Proofs.YthooacpfmjpdmaaGreatDoor
