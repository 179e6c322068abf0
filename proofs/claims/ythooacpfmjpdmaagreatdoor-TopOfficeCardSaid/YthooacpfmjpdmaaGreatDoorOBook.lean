/- Minutes as bytes: their lines, how they are read, the last line. Plain. No conditions. -/
import Derived.Test.YthooacpfmjpdmaaGreatDoorOEnv
import Derived.Lib.AtoiAllCases
namespace Go.Proofs.YthooacpfmjpdmaaGreatDoor
open Go.RowKit

theorem index_no {c : UInt8} : ∀ {s : List UInt8}, c ∉ s → Lib.index s [c] = -1
  | [], _ => rfl
  | b :: l, h => by
    have hb : c ≠ b := fun e => h (by rw [e]; exact List.mem_cons_self ..)
    have hl : c ∉ l := fun e => h (List.mem_cons_of_mem _ e)
    unfold Lib.index
    rw [if_neg (by simp [List.isPrefixOf, hb]), index_no hl]
    rfl
theorem index_yes {c : UInt8} {b : List UInt8} : ∀ {a : List UInt8}, c ∉ a → Lib.index (a ++ c :: b) [c] = a.length
  | [], _ => by
    rw [List.nil_append]
    unfold Lib.index
    rw [if_pos (by simp [List.isPrefixOf])]
    rfl
  | x :: a, h => by
    have hb : c ≠ x := fun e => h (by rw [e]; exact List.mem_cons_self ..)
    have hl : c ∉ a := fun e => h (List.mem_cons_of_mem _ e)
    rw [List.cons_append]
    unfold Lib.index
    rw [if_neg (by simp [List.isPrefixOf, hb]), index_yes hl, if_neg (by simp)]
    simp
theorem cut_no {c : UInt8} {s : List UInt8} (h : c ∉ s) : Lib.cut s [c] = (s, [], false) := by
  unfold Lib.cut
  rw [index_no h]; rfl
theorem cut_yes {c : UInt8} {a b : List UInt8} (h : c ∉ a) : Lib.cut (a ++ c :: b) [c] = (a, b, true) := by
  unfold Lib.cut
  rw [index_yes h, if_pos (by omega)]
  simp
/-- A list without c, or parted at its first c. -/
theorem part_at (c : UInt8) (s : List UInt8) : c ∉ s ∨ ∃ a b, s = a ++ c :: b ∧ c ∉ a := by
  by_cases h : c ∈ s
  · obtain ⟨a, b, e, hn⟩ := List.eq_append_cons_of_mem h
    exact .inr ⟨a, b, e, hn⟩
  · exact .inl h
theorem indexByte_mem {c : UInt8} {s : List UInt8} : (decide (0 ≤ Lib.indexByte s c)) = decide (c ∈ s) := by
  induction s with
  | nil => simp [Lib.indexByte]
  | cons b l ih =>
    unfold Lib.indexByte
    have hg := Lib.indexByte_ge l c
    by_cases hb : b = c
    · subst hb; simp
    · have hb' : (b == c) = false := by simpa using hb
      rw [hb', if_neg (by simp)]
      rw [decide_eq_decide] at ih ⊢
      have : (0 ≤ (if (Lib.indexByte l c == -1) = true then -1 else Lib.indexByte l c + 1)) ↔ 0 ≤ Lib.indexByte l c := by
        split
        · rename_i h1; have h1 := beq_iff_eq.1 h1; omega
        · rename_i h1; have h1 : Lib.indexByte l c ≠ -1 := fun e => h1 (by rw [e]; rfl)
          omega
      rw [this, ih]
      simp [Ne.symm hb]
theorem end_of {c d : UInt8} {a b q : List UInt8} (h : a ++ c :: b = q ++ [d]) : (b = [] ∧ c = d) ∨ ∃ b', b = b' ++ [d] := by
  rcases List.eq_nil_or_concat b with rfl | ⟨b', x, rfl⟩
  · have := List.append_inj' (s₁ := a) (t₁ := [c]) (s₂ := q) (t₂ := [d]) h rfl
    exact .inl ⟨rfl, by simpa using this.2⟩
  · rw [List.concat_eq_append] at h ⊢
    have h' : (a ++ c :: b') ++ [x] = q ++ [d] := by simpa using h
    have := List.append_inj' h' rfl
    have e : x = d := by simpa using this.2
    exact .inr ⟨b', by rw [e]⟩
/-- The last piece of a text parted at every c. -/
theorem split_last {c : UInt8} {x : List UInt8} (hx : c ∉ x) : ∀ (k : Nat) (pre : List UInt8), (pre = [] ∨ ∃ q, pre = q ++ [c]) → Lib.count (pre ++ x) [c] ≤ k → (Lib.splitK [c] 0 k (pre ++ x)).getLast? = some x := by
  intro k
  induction k with
  | zero =>
    intro pre hp hc
    rcases hp with rfl | ⟨q, rfl⟩
    · rfl
    · exfalso
      obtain ⟨a, b, e, hn⟩ := (part_at c (q ++ [c])).resolve_left (by simp)
      rw [e, List.append_assoc, List.cons_append, Lib.count_hit (by simp) (index_yes hn)] at hc
      omega
  | succ k ih =>
    intro pre hp hc
    rcases hp with rfl | ⟨q, rfl⟩
    · rw [List.nil_append]
      unfold Lib.splitK
      rw [index_no hx, if_pos (by decide)]; rfl
    · obtain ⟨a, b, e, hn⟩ := (part_at c (q ++ [c])).resolve_left (by simp)
      have e2 : q ++ [c] ++ x = a ++ c :: (b ++ x) := by rw [e, List.append_assoc, List.cons_append]
      rw [e2] at hc ⊢
      rw [Lib.count_hit (by simp) (index_yes hn)] at hc
      have hd : (a ++ c :: (b ++ x)).drop (a.length + 1) = b ++ x := by
        rw [List.drop_append]; simp
      unfold Lib.splitK
      rw [index_yes hn, if_neg (by simp)]
      simp only [Int.toNat_natCast, List.length_cons, List.length_nil, Nat.zero_add] at hc ⊢
      rw [hd] at hc ⊢
      have hb : b = [] ∨ ∃ q', b = q' ++ [c] := by
        rcases end_of e.symm with ⟨h, _⟩ | h
        · exact .inl h
        · exact .inr h
      have := ih b hb (by omega)
      rw [List.getLast?_cons, this]; rfl

theorem digits_dec (u : Nat) : ∀ c ∈ Lib.decDigits u, 48 ≤ c.toNat ∧ c.toNat ≤ 57 := by
  induction u using Nat.strongRecOn with
  | _ u ih =>
    intro c hc
    have h1 : ∀ d : Nat, d < 10 → (UInt8.ofNat (48 + d)).toNat = 48 + d := by
      intro d hd
      rw [UInt8.toNat_ofNat']; omega
    rw [Lib.decDigits] at hc
    split at hc
    · rename_i h
      rw [List.mem_singleton.1 hc, h1 u h]; omega
    · rename_i h
      rcases List.mem_append.1 hc with hc | hc
      · exact ih (u / 10) (by omega) c hc
      · rw [List.mem_singleton.1 hc, h1 (u % 10) (by omega)]; omega
theorem itoa_nat (n : Nat) : Lib.itoa (n : Int) = Lib.decDigits n := by
  unfold Lib.itoa
  rw [if_neg (by omega), Int.toNat_natCast]
theorem digits_itoa (n : Nat) : ∀ c ∈ Lib.itoa (n : Int), 48 ≤ c.toNat ∧ c.toNat ≤ 57 := by rw [itoa_nat]; exact digits_dec n
theorem itoa_ne (n : Nat) : Lib.itoa (n : Int) ≠ [] := by
  rw [itoa_nat]
  intro h
  have := Lib.decDigits_length n
  rw [h] at this
  have h2 := Lib.nDigits_pos n
  simp at this; omega
theorem itoa_no {c : UInt8} (n : Nat) (h : c.toNat < 48) : c ∉ Lib.itoa (n : Int) := fun hc => by have := digits_itoa n c hc; omega
theorem parse_append (l : List UInt8) (c : UInt8) : ∀ acc, Lib.parseUint10 acc (l ++ [c]) = match Lib.parseUint10 acc l with | .ok v => Lib.parseUint10 v [c] | Lib.NumEnd.syntax => Lib.NumEnd.syntax | .range => .range := by
  induction l with
  | nil => intro acc; rfl
  | cons b l ih =>
    intro acc
    rw [List.cons_append]
    unfold Lib.parseUint10
    split
    · split
      · rfl
      · split
        · rfl
        · exact ih _
    · rfl
theorem parse_dec (u : Nat) : u < 10000000 → Lib.parseUint10 0 (Lib.decDigits u) = .ok u := by
  induction u using Nat.strongRecOn with
  | _ u ih =>
    intro hu
    have h1 : ∀ d : Nat, d < 10 → (UInt8.ofNat (48 + d)).toNat = 48 + d := by
      intro d hd
      rw [UInt8.toNat_ofNat']; omega
    have step : ∀ v d : Nat, d < 10 → v < 10000000 → Lib.parseUint10 v [UInt8.ofNat (48 + d)] = .ok (v * 10 + d) := by
      intro v d hd hv
      unfold Lib.parseUint10
      rw [h1 d hd, if_pos (by omega), if_neg (by omega), if_neg (by omega)]
      unfold Lib.parseUint10
      rw [show v * 10 + (48 + d - 48) = v * 10 + d by omega]
    rw [Lib.decDigits]
    split
    · rename_i h
      rw [step 0 u h (by omega)]; simp
    · rename_i h
      rw [parse_append, ih (u / 10) (by omega) (by omega)]
      show Lib.parseUint10 (u / 10) [UInt8.ofNat (48 + u % 10)] = _
      rw [step (u / 10) (u % 10) (by omega) (by omega)]
      rw [show u / 10 * 10 + u % 10 = u by omega]
theorem atoi_itoa {n : Nat} (h : n < 10000000) : Lib.atoiAll (Lib.itoa (n : Int)) = .ok (n : Int) := by
  have hp := parse_dec n h
  rw [itoa_nat]
  have hd := digits_dec n
  have hne : Lib.decDigits n ≠ [] := by have := itoa_ne n; rwa [itoa_nat] at this
  obtain ⟨c, r, e⟩ : ∃ c r, Lib.decDigits n = c :: r := by
    cases hh : Lib.decDigits n with
    | nil => exact absurd hh hne
    | cons c r => exact ⟨c, r, rfl⟩
  rw [e] at hp hd ⊢
  have hc := hd c (List.mem_cons_self ..)
  rw [Lib.atoiAll_plain c r (by omega) (by omega)]
  unfold Lib.parseMag
  rw [if_neg (by simp), hp]
  unfold Lib.signless
  simp only []
  rw [if_neg (by omega)]

/-- May a text be an order of minutes? -/
def okB (o : List UInt8) : Bool := decide (1 ≤ o.length) && decide (o.length ≤ 30) && !(decide (10 ∈ o))
theorem okB_iff {o : List UInt8} : okB o = true ↔ 1 ≤ o.length ∧ o.length ≤ 30 ∧ 10 ∉ o := by
  unfold okB; simp [and_assoc]
/-- The line of an order. -/
def lineF (b : Nat) (o : List UInt8) : List UInt8 := Lib.itoa (sumF b o : Nat) ++ 32 :: (o ++ [10])
/-- The sum behind some orders. -/
def sumsF (b : Nat) : List (List UInt8) → Nat
  | [] => b
  | o :: l => sumsF (sumF b o) l
/-- The minutes of some orders. -/
def bookF (b : Nat) : List (List UInt8) → List UInt8
  | [] => []
  | o :: l => lineF b o ++ bookF (sumF b o) l
theorem sumsF_append (l m : List (List UInt8)) : ∀ b, sumsF b (l ++ m) = sumsF (sumsF b l) m := by
  induction l with
  | nil => intro b; rfl
  | cons o l ih => intro b; exact ih _
theorem bookF_append (l m : List (List UInt8)) : ∀ b, bookF b (l ++ m) = bookF b l ++ bookF (sumsF b l) m := by
  induction l with
  | nil => intro b; rfl
  | cons o l ih => intro b; simp only [List.cons_append, bookF, ih, sumsF, List.append_assoc]
theorem bookF_snoc (b : Nat) (l : List (List UInt8)) (o : List UInt8) : bookF b (l ++ [o]) = bookF b l ++ lineF (sumsF b l) o := by
  rw [bookF_append]; simp [bookF]
theorem sumsF_lt {b : Nat} (hb : b < 1000003) : ∀ l : List (List UInt8), sumsF b l < 1000003 := by
  intro l
  induction l generalizing b with
  | nil => exact hb
  | cons o l ih => exact ih (sumF_lt _ _)
theorem lineF_no {b : Nat} {o : List UInt8} (h : 10 ∉ o) : (10 : UInt8) ∉ Lib.itoa (sumF b o : Nat) ++ 32 :: o := by
  intro hm
  rcases List.mem_append.1 hm with hm | hm
  · exact itoa_no _ (by decide) hm
  · rcases List.mem_cons.1 hm with hm | hm
    · exact absurd hm (by decide)
    · exact h hm
theorem lineF_eq (b : Nat) (o : List UInt8) (r : List UInt8) : lineF b o ++ r = (Lib.itoa (sumF b o : Nat) ++ 32 :: o) ++ 10 :: r := by
  unfold lineF; simp
theorem lineF_cut {b : Nat} {o r : List UInt8} (h : 10 ∉ o) : Lib.cut (lineF b o ++ r) [10] = (Lib.itoa (sumF b o : Nat) ++ 32 :: o, r, true) := by
  rw [lineF_eq]; exact cut_yes (lineF_no h)
theorem line_cut (b : Nat) (o : List UInt8) : Lib.cut (Lib.itoa (sumF b o : Nat) ++ 32 :: o) [32] = (Lib.itoa (sumF b o : Nat), o, true) := cut_yes (itoa_no _ (by decide))

/-- The bytes ahead of the first blank of the last line. -/
def lastF (t : List UInt8) : List UInt8 :=
  (Lib.cut ((Lib.splitK [10] 0 (Lib.count (Lib.trimSuffix t [10]) [10]) (Lib.trimSuffix t [10])).getLast?.getD []) [32]).1
theorem trim_yes (s : List UInt8) (c : UInt8) : Lib.trimSuffix (s ++ [c]) [c] = s := by
  unfold Lib.trimSuffix Lib.hasSuffix
  rw [if_pos (by rw [List.isSuffixOf_iff_suffix]; exact List.suffix_append _ _)]
  simp
theorem book_end (b : Nat) (l : List (List UInt8)) : bookF b l = [] ∨ ∃ q, bookF b l = q ++ [10] := by
  rcases List.eq_nil_or_concat l with rfl | ⟨l', o, rfl⟩
  · exact .inl rfl
  · rw [List.concat_eq_append, bookF_snoc]
    exact .inr ⟨bookF b l' ++ (Lib.itoa (sumF (sumsF b l') o : Nat) ++ 32 :: o), by unfold lineF; simp⟩
theorem lastF_nil : lastF [] = [] := by kernel_rfl
theorem lastF_book {l : List (List UInt8)} {o : List UInt8} (ho : 10 ∉ o) (b : Nat) : lastF (bookF b (l ++ [o])) = Lib.itoa (sumsF b (l ++ [o]) : Nat) := by
  have e : bookF b (l ++ [o]) = (bookF b l ++ (Lib.itoa (sumF (sumsF b l) o : Nat) ++ 32 :: o)) ++ [10] := by
    rw [bookF_snoc]; unfold lineF; simp
  unfold lastF
  rw [e, trim_yes, split_last (lineF_no ho) _ _ (book_end b l) (Nat.le_refl _), Option.getD_some, line_cut, sumsF_append]
  rfl
/-- The number that the last line of minutes begins with. -/
def lastN (t : List UInt8) : Int := match Lib.atoiAll (lastF t) with | .ok v => v | Lib.NumEnd.syntax => 0 | .range => Lib.atoiSat (lastF t)
theorem lastN_book {l : List (List UInt8)} (h : ∀ o ∈ l, 10 ∉ o) : lastN (bookF 0 l) = (sumsF 0 l : Nat) := by
  unfold lastN
  rcases List.eq_nil_or_concat l with rfl | ⟨l', o, rfl⟩
  · show (match Lib.atoiAll (lastF []) with | .ok v => v | Lib.NumEnd.syntax => 0 | .range => Lib.atoiSat (lastF [])) = _
    rw [lastF_nil]; rfl
  · rw [List.concat_eq_append] at h ⊢
    rw [lastF_book (h o (by simp)), atoi_itoa (by have := sumsF_lt (b := 0) (by decide) (l' ++ [o]); omega)]

/-- How minutes are read: at most k orders, from a sum on. -/
def readF : Nat → Nat → List UInt8 → List (List UInt8) × List UInt8
  | 0, _, t => ([], t)
  | k + 1, b, t =>
    if (Lib.cut t [10]).2.2 && ((Lib.cut (Lib.cut t [10]).1 [32]).2.2 && (okB (Lib.cut (Lib.cut t [10]).1 [32]).2.1 && (Lib.itoa (sumF b (Lib.cut (Lib.cut t [10]).1 [32]).2.1 : Nat) == (Lib.cut (Lib.cut t [10]).1 [32]).1))) then
      ((Lib.cut (Lib.cut t [10]).1 [32]).2.1 :: (readF k (sumF b (Lib.cut (Lib.cut t [10]).1 [32]).2.1) (Lib.cut t [10]).2.1).1, (readF k (sumF b (Lib.cut (Lib.cut t [10]).1 [32]).2.1) (Lib.cut t [10]).2.1).2)
    else ([], t)
theorem readF_line {k b : Nat} {o r : List UInt8} (h : okB o = true) : readF (k + 1) b (lineF b o ++ r) = (o :: (readF k (sumF b o) r).1, (readF k (sumF b o) r).2) := by
  rw [readF, lineF_cut (okB_iff.1 h).2.2]
  simp only []
  rw [line_cut]
  simp [h]
theorem readF_stop {k b : Nat} {t : List UInt8} (h : ∀ o r, okB o = true → t ≠ lineF b o ++ r) : readF k b t = ([], t) := by
  cases k with
  | zero => rfl
  | succ k =>
    rw [readF]
    split
    · rename_i hc
      simp only [Bool.and_eq_true, beq_iff_eq] at hc
      obtain ⟨h1, h2, h3, h4⟩ := hc
      exfalso
      rcases part_at 10 t with hn | ⟨a, r, rfl, hn⟩
      · rw [cut_no hn] at h1; cases h1
      · rw [cut_yes hn] at h2 h3 h4
        simp only [] at h2 h3 h4
        rcases part_at 32 a with hm | ⟨s, o, rfl, hm⟩
        · rw [cut_no hm] at h2; cases h2
        · rw [cut_yes hm] at h3 h4
          simp only [] at h3 h4
          refine h o r h3 ?_
          rw [lineF_eq, h4]
    · rfl
theorem readF_book : ∀ (l : List (List UInt8)) (k b : Nat) (r : List UInt8), (∀ o ∈ l, okB o = true) → l.length ≤ k → readF k b (bookF b l ++ r) = (l ++ (readF (k - l.length) (sumsF b l) r).1, (readF (k - l.length) (sumsF b l) r).2) := by
  intro l
  induction l with
  | nil => intro k b r _ _; rfl
  | cons o l ih =>
    intro k b r h hk
    obtain ⟨k, rfl⟩ : ∃ j, k = j + 1 := ⟨k - 1, by simp at hk; omega⟩
    simp only [bookF, List.append_assoc]
    rw [readF_line (h o (List.mem_cons_self ..)), ih k _ r (fun x hx => h x (List.mem_cons_of_mem _ hx)) (by simp at hk; omega)]
    simp only [List.length_cons, Nat.add_sub_add_right, sumsF, List.cons_append]
theorem readF_nil (k b : Nat) : readF k b [] = ([], []) := readF_stop fun o r _ e => by
  have := congrArg List.length e
  unfold lineF at this
  simp at this
theorem readF_whole {l : List (List UInt8)} {k b : Nat} (h : ∀ o ∈ l, okB o = true) (hk : l.length ≤ k) : readF k b (bookF b l) = (l, []) := by
  have := readF_book l k b [] h hk
  rw [List.append_nil, readF_nil, List.append_nil] at this
  exact this
theorem line_len {b : Nat} {o : List UInt8} (h : okB o = true) : (lineF b o).length ≤ 40 := by
  have h1 := okB_iff.1 h
  have h2 : (Lib.itoa (sumF b o : Nat)).length ≤ 7 := by
    rw [itoa_nat, Lib.decDigits_length]
    have := sumF_lt b o
    rcases Nat.lt_or_ge (Lib.nDigits (sumF b o)) 8 with h | h
    · omega
    · exfalso
      have key : ∀ n, n < 10000000 → Lib.nDigits n ≤ 7 := by
        have s1 : ∀ n, n < 10 → Lib.nDigits n ≤ 1 := fun n hn => by rw [Lib.nDigits_small hn]; omega
        have st : ∀ k m, (∀ n, n < m → Lib.nDigits n ≤ k) → ∀ n, n < m * 10 → Lib.nDigits n ≤ k + 1 := by
          intro k m hk n hn
          by_cases h : n < 10
          · rw [Lib.nDigits_small h]; omega
          · rw [Lib.nDigits_big h]; have := hk (n / 10) (by omega); omega
        exact st 6 1000000 (st 5 100000 (st 4 10000 (st 3 1000 (st 2 100 (st 1 10 s1)))))
      have := key (sumF b o) (by omega)
      omega
  unfold lineF
  simp; omega
theorem book_len {l : List (List UInt8)} (h : ∀ o ∈ l, okB o = true) : ∀ b, (bookF b l).length ≤ 40 * l.length := by
  induction l with
  | nil => intro b; simp [bookF]
  | cons o l ih =>
    intro b
    have h1 := line_len (b := b) (h o (List.mem_cons_self ..))
    have h2 := ih (fun x hx => h x (List.mem_cons_of_mem _ hx)) (sumF b o)
    simp only [bookF, List.length_append, List.length_cons]
    omega
end Go.Proofs.YthooacpfmjpdmaaGreatDoor
