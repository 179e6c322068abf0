/- Rings of a map, the rounds in which the owners go, and why no other deal stands. Plain; no program in sight. No conditions. -/
import Derived.Test.YtpbkkekdjkmpmaaKit
namespace Go.Proofs.Ytpbkkekdjkmpmaa
/-- A map of a list without repeats into itself that is one to one is onto. -/
theorem onto_of_inj {l : List Nat} (hn : l.Nodup) {f : Nat → Nat} (hm : ∀ i ∈ l, f i ∈ l) (hi : ∀ i ∈ l, ∀ j ∈ l, f i = f j → i = j) {m : Nat} (h : m ∈ l) : ∃ q ∈ l, f q = m := by
  have h1 : (l.map f).Nodup := by
    rw [List.nodup_iff_pairwise_ne, List.pairwise_map]
    rw [List.nodup_iff_pairwise_ne] at hn
    exact List.Pairwise.imp_of_mem (fun {a b} ha hb hab e => hab (hi a ha b hb e)) hn
  apply Classical.byContradiction
  intro hc
  have h2 : (m :: l.map f).Nodup := by
    rw [List.nodup_cons]
    refine ⟨fun hx => ?_, h1⟩
    obtain ⟨q, hq, e⟩ := List.mem_map.1 hx
    exact hc ⟨q, hq, e⟩
  have h3 : (m :: l.map f) ⊆ l := by
    intro x hx
    rcases List.mem_cons.1 hx with rfl | hx
    · exact h
    · obtain ⟨q, hq, rfl⟩ := List.mem_map.1 hx
      exact hm q hq
  have := h2.length_le_of_subset h3
  simp at this
  omega

/-- The deal of the rounds: nobody who is left in a round gets better than what goes in it. -/
structure Ttc (n : Nat) (pl : Nat → Nat → Nat) (own rd : Nat → Nat) : Prop where
  lt : ∀ i, i < n → own i < n
  inj : ∀ i j, i < n → j < n → own i = own j → i = j
  stay : ∀ i, i < n → rd (own i) = rd i
  best : ∀ i j, i < n → j < n → rd i ≤ rd j → pl i (own i) ≤ pl i j

/-- Each owner orders the plots. -/
def Strict (n : Nat) (pl : Nat → Nat → Nat) : Prop := ∀ i j k, i < n → j < n → k < n → pl i j = pl i k → j = k

theorem Ttc.onto {n : Nat} {pl : Nat → Nat → Nat} {own rd : Nat → Nat} (h : Ttc n pl own rd) {m : Nat} (hm : m < n) : ∃ q, q < n ∧ own q = m ∧ rd q = rd m := by
  obtain ⟨q, hq, e⟩ := onto_of_inj List.nodup_range (f := own) (fun i hi => List.mem_range.2 (h.lt i (List.mem_range.1 hi))) (fun i hi j hj e => h.inj i j (List.mem_range.1 hi) (List.mem_range.1 hj) e) (List.mem_range.2 hm)
  exact ⟨q, List.mem_range.1 hq, e, by rw [← e, h.stay q (List.mem_range.1 hq)]⟩

/-- What a group gives itself, nobody less than before, is what it has. -/
theorem Ttc.same {n : Nat} {pl : Nat → Nat → Nat} {own rd : Nat → Nat} (h : Ttc n pl own rd) (hs : Strict n pl) {S : List Nat} (hn : S.Nodup) (hS : ∀ i ∈ S, i < n) {f : Nat → Nat}
    (hm : ∀ i ∈ S, f i ∈ S) (hi : ∀ i ∈ S, ∀ j ∈ S, f i = f j → i = j) (hw : ∀ i ∈ S, pl i (f i) ≤ pl i (own i)) : ∀ r i, i ∈ S → rd i = r → f i = own i := by
  intro r
  induction r using Nat.strongRecOn with
  | ind r ih =>
    intro i hiS hr
    have hge : r ≤ rd (f i) := by
      apply Classical.byContradiction
      intro hlt
      obtain ⟨q, hq, e⟩ := onto_of_inj (l := S.filter fun j => decide (rd j < r)) (hn.sublist List.filter_sublist) (f := own)
        (fun j hj => by
          obtain ⟨hj1, hj2⟩ := List.mem_filter.1 hj
          have hj3 : rd j < r := of_decide_eq_true hj2
          rw [List.mem_filter]
          refine ⟨?_, ?_⟩
          · rw [← ih _ hj3 j hj1 rfl]; exact hm j hj1
          · rw [h.stay j (hS j hj1)]; exact hj2)
        (fun j hj k hk e => h.inj j k (hS j (List.mem_filter.1 hj).1) (hS k (List.mem_filter.1 hk).1) e)
        (m := f i) (by rw [List.mem_filter]; exact ⟨hm i hiS, by simpa using hlt⟩)
      obtain ⟨hq1, hq2⟩ := List.mem_filter.1 hq
      have hq3 : rd q < r := of_decide_eq_true hq2
      have h1 := ih _ hq3 q hq1 rfl
      have h2 := hi q hq1 i hiS (by rw [h1, e])
      subst h2
      omega
    have hfi := hS _ (hm i hiS)
    have h1 := h.best i (f i) (hS i hiS) hfi (by omega)
    have h2 := hw i hiS
    exact hs i _ _ (hS i hiS) hfi (h.lt i (hS i hiS)) (by omega)

/-- A deal that gives each round's owners, as a group, nothing to win is the deal of the rounds. -/
theorem Ttc.only {n : Nat} {pl : Nat → Nat → Nat} {own rd : Nat → Nat} (h : Ttc n pl own rd) (hs : Strict n pl) {d : Nat → Nat} (hd : ∀ i, i < n → d i < n) (hdi : ∀ i j, i < n → j < n → d i = d j → i = j)
    (hb : ∀ r, (∀ i, i < n → rd i = r → pl i (own i) ≤ pl i (d i)) → ∀ i, i < n → rd i = r → ¬ pl i (own i) < pl i (d i)) : ∀ r i, i < n → rd i = r → d i = own i := by
  intro r
  induction r using Nat.strongRecOn with
  | ind r ih =>
    have hge : ∀ i, i < n → rd i = r → r ≤ rd (d i) := by
      intro i hi hr
      apply Classical.byContradiction
      intro hlt
      obtain ⟨q, hq, e, e2⟩ := h.onto (hd i hi)
      have h1 := ih _ (by omega) q hq rfl
      have h2 := hdi q i hq hi (by rw [h1, e])
      subst h2
      omega
    have hw : ∀ i, i < n → rd i = r → pl i (own i) ≤ pl i (d i) := fun i hi hr => h.best i _ hi (hd i hi) (by have := hge i hi hr; omega)
    intro i hi hr
    have h1 := hb r hw i hi hr
    have h2 := hw i hi hr
    exact hs i _ _ hi (hd i hi) (h.lt i hi) (by omega)
end Go.Proofs.Ytpbkkekdjkmpmaa
namespace Go.Proofs.Ytpbkkekdjkmpmaa
def iter (f : Nat → Nat) : Nat → Nat → Nat
  | 0, i => i
  | k + 1, i => f (iter f k i)
theorem iter_add (f : Nat → Nat) (a b i : Nat) : iter f (a + b) i = iter f a (iter f b i) := by
  induction a with
  | zero => simp [iter]
  | succ a ih => rw [Nat.succ_add]; simp only [iter]; rw [ih]
theorem iter_succ (f : Nat → Nat) (k i : Nat) : iter f (k + 1) i = iter f k (f i) := by
  rw [iter_add]; rfl
theorem iter_mul {f : Nat → Nat} {p i : Nat} (h : iter f p i = i) : ∀ k, iter f (p * k) i = i
  | 0 => rfl
  | k + 1 => by rw [Nat.mul_succ, iter_add, h, iter_mul h k]
theorem iter_lt {f : Nat → Nat} {n : Nat} (hf : ∀ i, i < n → f i < n) : ∀ k i, i < n → iter f k i < n
  | 0, _, h => h
  | k + 1, i, h => hf _ (iter_lt hf k i h)

/-- The first m places of the way from i. -/
def orb (f : Nat → Nat) (i m : Nat) : List Nat := (List.range m).map fun k => iter f k i
theorem orb_len (f : Nat → Nat) (i m : Nat) : (orb f i m).length = m := by simp [orb]
theorem orb_succ (f : Nat → Nat) (i m : Nat) : orb f i (m + 1) = orb f i m ++ [iter f m i] := by simp [orb, List.range_succ]
theorem mem_orb {f : Nat → Nat} {i m x : Nat} : x ∈ orb f i m ↔ ∃ k, k < m ∧ iter f k i = x := by simp [orb]
theorem orb_get {f : Nat → Nat} {i m k : Nat} (h : k < m) : (orb f i m)[k]? = some (iter f k i) := by simp [orb, h]

/-- i comes back to itself. -/
def Per (f : Nat → Nat) (i : Nat) : Prop := ∃ p, 1 ≤ p ∧ iter f p i = i

theorem Per.inj {f : Nat → Nat} {a b : Nat} (ha : Per f a) (hb : Per f b) (h : f a = f b) : a = b := by
  obtain ⟨p, hp, e1⟩ := ha
  obtain ⟨q, hq, e2⟩ := hb
  have h1 : iter f (p * q) a = a := iter_mul e1 q
  have h2 : iter f (p * q) b = b := by rw [Nat.mul_comm]; exact iter_mul e2 p
  have h3 : 1 ≤ p * q := Nat.mul_pos hp hq
  obtain ⟨r, hr⟩ : ∃ r, p * q = r + 1 := ⟨p * q - 1, by omega⟩
  rw [hr, iter_succ] at h1 h2
  rw [← h1, ← h2, h]
theorem Per.step {f : Nat → Nat} {a : Nat} (ha : Per f a) (k : Nat) : Per f (iter f k a) := by
  obtain ⟨p, hp, e⟩ := ha
  exact ⟨p, hp, by rw [← iter_add, Nat.add_comm, iter_add, e]⟩
/-- What lies on the way from i lies on a ring with i. -/
theorem Per.back {f : Nat → Nat} {a : Nat} (ha : Per f a) (k : Nat) : ∃ j, iter f j (iter f k a) = a := by
  obtain ⟨p, hp, e⟩ := ha
  refine ⟨p * k - k + 0, ?_⟩
  have hle : k ≤ p * k := by
    have := Nat.mul_le_mul_right k hp
    simpa using this
  rw [← iter_add]
  have : p * k - k + 0 + k = p * k := by omega
  rw [this, iter_mul e]

/-- The way from i until it comes to a place that it has seen. -/
structure Way (f : Nat → Nat) (i m : Nat) : Prop where
  pos : 1 ≤ m
  nodup : (orb f i m).Nodup
  closed : iter f m i ∈ orb f i m

theorem Per.down {f : Nat → Nat} {i : Nat} (hp : Per f i) : ∀ j d, iter f j i = iter f (j + d) i → iter f d i = i := by
  intro j
  induction j with
  | zero => intro d e; rw [Nat.zero_add] at e; exact e.symm
  | succ j ih =>
    intro d e
    refine ih d (Per.inj (hp.step j) (hp.step (j + d)) ?_)
    have : j + 1 + d = (j + d) + 1 := by omega
    rw [this] at e
    exact e
theorem orb_inj {f : Nat → Nat} {i m a b : Nat} (hn : (orb f i m).Nodup) (ha : a < m) (hb : b < m) (e : iter f a i = iter f b i) : a = b := by
  have h3 : (orb f i m)[a]? = (orb f i m)[b]? := by rw [orb_get ha, orb_get hb, e]
  exact (List.getElem?_inj (by rw [orb_len]; exact ha) hn).1 h3
theorem Way.ends {f : Nat → Nat} {i m : Nat} (h : Way f i m) : Per f i ↔ iter f m i = i := by
  refine ⟨fun hp => ?_, fun e => ⟨m, h.pos, e⟩⟩
  obtain ⟨j, hj, e⟩ := mem_orb.1 h.closed
  have h2 : iter f (m - j) i = i := hp.down j (m - j) (by rw [show j + (m - j) = m by omega]; exact e)
  by_cases hj0 : j = 0
  · subst hj0; simpa using h2
  · exfalso
    have h0 : iter f 0 i = i := rfl
    have := orb_inj h.nodup (a := m - j) (b := 0) (by omega) h.pos (by rw [h2, h0])
    omega
theorem Way.uniq {f : Nat → Nat} {i m m' : Nat} (h : Way f i m) (h' : Way f i m') : m = m' := by
  have key : ∀ {m m'}, Way f i m → Way f i m' → ¬ m < m' := by
    intro m m' h h' hlt
    obtain ⟨j, hj, e⟩ := mem_orb.1 h.closed
    have := orb_inj h'.nodup (a := j) (b := m) (by omega) hlt e
    omega
  have h1 := key h h'
  have h2 := key h' h
  omega
/-- How long the way from i is. -/
def wayL (f : Nat → Nat) (i : Nat) : Nat → Nat → Nat
  | 0, m => m
  | k + 1, m => if (orb f i m).contains (iter f m i) then m else wayL f i k (m + 1)
theorem wayL_spec {f : Nat → Nat} {n i : Nat} (hf : ∀ i, i < n → f i < n) (hi : i < n) : ∀ k m, 1 ≤ m → n + 1 ≤ k + m → (orb f i m).Nodup → Way f i (wayL f i k m)
  | 0, m, h1, hk, hn => by
    exfalso
    have h2 : orb f i m ⊆ List.range n := by
      intro x hx
      obtain ⟨k, _, rfl⟩ := mem_orb.1 hx
      exact List.mem_range.2 (iter_lt hf k i hi)
    have := hn.length_le_of_subset h2
    rw [orb_len, List.length_range] at this
    omega
  | k + 1, m, h1, hk, hn => by
    unfold wayL
    by_cases hc : iter f m i ∈ orb f i m
    · rw [if_pos (by simpa using hc)]
      exact ⟨h1, hn, hc⟩
    · rw [if_neg (by simpa using hc)]
      refine wayL_spec hf hi k (m + 1) (by omega) (by omega) ?_
      rw [orb_succ, List.nodup_append]
      refine ⟨hn, by simp, fun a ha b hb e => ?_⟩
      simp only [List.mem_singleton] at hb
      subst hb; subst e
      exact hc ha
def wayN (f : Nat → Nat) (n i : Nat) : Nat := wayL f i n 1
theorem wayN_spec {f : Nat → Nat} {n i : Nat} (hf : ∀ i, i < n → f i < n) (hi : i < n) : Way f i (wayN f n i) := wayL_spec hf hi n 1 (Nat.le_refl _) (Nat.le_refl _) (by simp [orb])
theorem Way.le {f : Nat → Nat} {n i m : Nat} (hf : ∀ i, i < n → f i < n) (hi : i < n) (hn : (orb f i m).Nodup) : m ≤ n := by
  have h2 : orb f i m ⊆ List.range n := by
    intro x hx
    obtain ⟨k, _, rfl⟩ := mem_orb.1 hx
    exact List.mem_range.2 (iter_lt hf k i hi)
  have := hn.length_le_of_subset h2
  rwa [orb_len, List.length_range] at this

/-- One more owner is looked at. -/
def stepC (f : Nat → Nat) (n : Nat) (lf : Nat → Bool) (cs : List (List Nat)) (i : Nat) : List (List Nat) :=
  if !lf i || cs.any (fun c => c.contains i) then cs else if iter f (wayN f n i) i = i then cs ++ [orb f i (wayN f n i)] else cs
def cycK (f : Nat → Nat) (n : Nat) (lf : Nat → Bool) (k : Nat) : List (List Nat) := (List.range k).foldl (stepC f n lf) []
theorem cycK_succ (f : Nat → Nat) (n : Nat) (lf : Nat → Bool) (k : Nat) : cycK f n lf (k + 1) = stepC f n lf (cycK f n lf k) k := by
  simp [cycK, List.range_succ, List.foldl_append]
/-- What the cycles are: whole rings, each told from its smallest owner. -/
def ringB (f : Nat → Nat) (n : Nat) (lf : Nat → Bool) (i : Nat) : Bool := lf i && decide (iter f (wayN f n i) i = i) && (orb f i (wayN f n i)).all (fun x => decide (i ≤ x))
theorem cycK_eq {f : Nat → Nat} {n : Nat} {lf : Nat → Bool} (hf : ∀ i, i < n → f i < n) (hl : ∀ i, i < n → lf i = true → lf (f i) = true) : ∀ k, k ≤ n → cycK f n lf k = ((List.range k).filter (ringB f n lf)).map fun i => orb f i (wayN f n i)
  | 0, _ => rfl
  | k + 1, hk => by
    have hit : ∀ j i, i < n → lf i = true → lf (iter f j i) = true := by
      intro j
      induction j with
      | zero => intro i _ h; exact h
      | succ j ih => intro i hi h; exact hl _ (iter_lt hf j i hi) (ih i hi h)
    rw [cycK_succ, cycK_eq hf hl k (by omega), List.range_succ, List.filter_append, List.map_append]
    have hw := wayN_spec hf (show k < n by omega)
    unfold stepC
    by_cases hl1 : lf k = true
    · have hmem : ((((List.range k).filter (ringB f n lf)).map fun i => orb f i (wayN f n i)).any fun c => c.contains k) = true ↔ ∃ i, i < k ∧ ringB f n lf i = true ∧ k ∈ orb f i (wayN f n i) := by
        rw [List.any_eq_true]
        constructor
        · rintro ⟨c, hc, hk⟩
          obtain ⟨i, hi, rfl⟩ := List.mem_map.1 hc
          rw [List.mem_filter, List.mem_range] at hi
          exact ⟨i, hi.1, hi.2, by simpa using hk⟩
        · rintro ⟨i, h1, h2, h3⟩
          exact ⟨_, List.mem_map.2 ⟨i, by rw [List.mem_filter, List.mem_range]; exact ⟨h1, h2⟩, rfl⟩, by simpa using h3⟩
      by_cases hs : ∃ i, i < k ∧ ringB f n lf i = true ∧ k ∈ orb f i (wayN f n i)
      · have hr : ringB f n lf k = false := by
          obtain ⟨i, h1, h2, h3⟩ := hs
          unfold ringB at h2 ⊢
          rw [Bool.and_eq_true, Bool.and_eq_true, decide_eq_true_iff] at h2
          obtain ⟨j, hj, e⟩ := mem_orb.1 h3
          have hpi : Per f i := ⟨_, (wayN_spec hf (show i < n by omega)).pos, h2.1.2⟩
          have hpk : Per f k := by rw [← e]; exact hpi.step j
          obtain ⟨j', e'⟩ := hpi.back j
          rw [e] at e'
          -- i lies on the way from k
          have hik : i ∈ orb f k (wayN f n k) := by
            have h4 := hw.ends.1 hpk
            rw [mem_orb]
            refine ⟨j' % wayN f n k, Nat.mod_lt _ hw.pos, ?_⟩
            have h5 := Nat.mod_add_div j' (wayN f n k)
            rw [← h5, iter_add, iter_mul h4] at e'
            exact e'
          cases h6 : (lf k && decide (iter f (wayN f n k) k = k) && (orb f k (wayN f n k)).all (fun x => decide (k ≤ x)))
          · rfl
          · rw [Bool.and_eq_true, List.all_eq_true] at h6
            have := of_decide_eq_true (h6.2 i hik)
            omega
        rw [if_pos (by rw [hmem.2 hs, Bool.or_true]), List.filter_cons_of_neg (by simp [hr])]
        simp
      · rw [if_neg (by rw [hl1, Bool.not_true, Bool.false_or]; exact fun h => hs (hmem.1 h))]
        by_cases he : iter f (wayN f n k) k = k
        · have hr : ringB f n lf k = true := by
            unfold ringB
            rw [hl1, decide_eq_true he, Bool.true_and, Bool.true_and, List.all_eq_true]
            intro x hx
            rw [decide_eq_true_iff]
            apply Classical.byContradiction
            intro hlt
            -- the smallest owner of the ring
            obtain ⟨y, hy, hmin⟩ : ∃ y, y ∈ orb f k (wayN f n k) ∧ ∀ z, z ∈ orb f k (wayN f n k) → y ≤ z := by
              have : ∀ l : List Nat, l ≠ [] → ∃ y, y ∈ l ∧ ∀ z, z ∈ l → y ≤ z := by
                intro l
                induction l with
                | nil => intro h; exact absurd rfl h
                | cons a l ih =>
                  intro _
                  by_cases hl : l = []
                  · subst hl; exact ⟨a, by simp, by simp⟩
                  · obtain ⟨y, h1, h2⟩ := ih hl
                    by_cases hay : a ≤ y
                    · exact ⟨a, by simp, fun z hz => by rcases List.mem_cons.1 hz with rfl | hz; exact Nat.le_refl _; exact Nat.le_trans hay (h2 z hz)⟩
                    · exact ⟨y, by simp [h1], fun z hz => by rcases List.mem_cons.1 hz with rfl | hz; omega; exact h2 z hz⟩
              exact this _ (List.ne_nil_of_mem hx)
            have hpk : Per f k := ⟨_, hw.pos, he⟩
            obtain ⟨j, hj, e⟩ := mem_orb.1 hy
            have hyn : y < n := by rw [← e]; exact iter_lt hf j k (by omega)
            have hyk : y < k := by have := hmin x hx; omega
            have hpy : Per f y := by rw [← e]; exact hpk.step j
            have hwy := wayN_spec hf hyn
            have hey := hwy.ends.1 hpy
            obtain ⟨j', e'⟩ := hpk.back j
            rw [e] at e'
            refine hs ⟨y, hyk, ?_, ?_⟩
            · unfold ringB
              rw [show lf y = true by rw [← e]; exact hit j k (by omega) hl1, decide_eq_true hey, Bool.true_and, Bool.true_and, List.all_eq_true]
              intro z hz
              rw [decide_eq_true_iff]
              obtain ⟨q, hq, rfl⟩ := mem_orb.1 hz
              apply hmin
              rw [← e, ← iter_add, mem_orb]
              refine ⟨(q + j) % wayN f n k, Nat.mod_lt _ hw.pos, ?_⟩
              conv => rhs; rw [← Nat.mod_add_div (q + j) (wayN f n k), iter_add, iter_mul he]
            · rw [mem_orb]
              refine ⟨j' % wayN f n y, Nat.mod_lt _ hwy.pos, ?_⟩
              rw [← Nat.mod_add_div j' (wayN f n y), iter_add, iter_mul hey] at e'
              exact e'
          rw [if_pos he, List.filter_cons_of_pos (by simp [hr])]
          simp
        · have hr : ringB f n lf k = false := by
            unfold ringB; rw [decide_eq_false he, Bool.and_false, Bool.false_and]
          rw [if_neg he, List.filter_cons_of_neg (by simp [hr])]
          simp
    · have hl2 : lf k = false := by simpa using hl1
      have hr : ringB f n lf k = false := by unfold ringB; rw [hl2, Bool.false_and, Bool.false_and]
      rw [if_pos (by rw [hl2]; rfl), List.filter_cons_of_neg (by simp [hr])]
      simp
end Go.Proofs.Ytpbkkekdjkmpmaa
namespace Go.Proofs.Ytpbkkekdjkmpmaa
/-- Somebody is left. -/
def anyL (n : Nat) (lf : Nat → Bool) : Bool := (List.range n).any lf
theorem anyL_iff {n : Nat} {lf : Nat → Bool} : anyL n lf = true ↔ ∃ i, i < n ∧ lf i = true := by
  unfold anyL
  rw [List.any_eq_true]
  exact ⟨fun ⟨i, h1, h2⟩ => ⟨i, List.mem_range.1 h1, h2⟩, fun ⟨i, h1, h2⟩ => ⟨i, List.mem_range.2 h1, h2⟩⟩
def cyc (f : Nat → Nat) (n : Nat) (lf : Nat → Bool) : List (List Nat) := cycK f n lf n
def inC (cs : List (List Nat)) (i : Nat) : Bool := cs.any fun c => c.contains i
def nextL (cs : List (List Nat)) (lf : Nat → Bool) : Nat → Bool := fun j => lf j && !inC cs j
section
variable {f : Nat → Nat} {n : Nat} {lf : Nat → Bool} (hf : ∀ i, i < n → f i < n) (hl : ∀ i, i < n → lf i = true → lf (f i) = true)
include hf hl
theorem mem_cyc {c : List Nat} (h : c ∈ cyc f n lf) : ∃ i, i < n ∧ lf i = true ∧ iter f (wayN f n i) i = i ∧ c = orb f i (wayN f n i) ∧ ∀ x ∈ c, i ≤ x := by
  unfold cyc at h
  rw [cycK_eq hf hl n (Nat.le_refl _)] at h
  obtain ⟨i, hi, rfl⟩ := List.mem_map.1 h
  rw [List.mem_filter, List.mem_range] at hi
  unfold ringB at hi
  rw [Bool.and_eq_true, Bool.and_eq_true, List.all_eq_true] at hi
  exact ⟨i, hi.1, hi.2.1.1, of_decide_eq_true hi.2.1.2, rfl, fun x hx => of_decide_eq_true (hi.2.2 x hx)⟩
theorem left_iter {i : Nat} (hi : i < n) (h : lf i = true) (k : Nat) : lf (iter f k i) = true := by
  induction k with
  | zero => exact h
  | succ k ih => exact hl _ (iter_lt hf k i hi) ih
/-- Each owner of a ring is in a cycle. -/
theorem inC_iff {i : Nat} (hi : i < n) : inC (cyc f n lf) i = true ↔ lf i = true ∧ Per f i := by
  unfold inC
  rw [List.any_eq_true]
  constructor
  · rintro ⟨c, hc, hci⟩
    obtain ⟨a, ha, hla, he, rfl, _⟩ := mem_cyc hf hl hc
    obtain ⟨k, hk, rfl⟩ := mem_orb.1 (by simpa using hci)
    exact ⟨left_iter hf hl ha hla k, Per.step ⟨_, (wayN_spec hf ha).pos, he⟩ k⟩
  · rintro ⟨hli, hp⟩
    have hw := wayN_spec hf hi
    have he := hw.ends.1 hp
    have hmin : ∀ l : List Nat, l ≠ [] → ∃ y, y ∈ l ∧ ∀ z, z ∈ l → y ≤ z := by
      intro l
      induction l with
      | nil => intro h; exact absurd rfl h
      | cons a l ih =>
        intro _
        by_cases hl : l = []
        · subst hl; exact ⟨a, by simp, by simp⟩
        · obtain ⟨y, h1, h2⟩ := ih hl
          by_cases hay : a ≤ y
          · exact ⟨a, by simp, fun z hz => by rcases List.mem_cons.1 hz with rfl | hz; exact Nat.le_refl _; exact Nat.le_trans hay (h2 z hz)⟩
          · exact ⟨y, by simp [h1], fun z hz => by rcases List.mem_cons.1 hz with rfl | hz; omega; exact h2 z hz⟩
    obtain ⟨y, hy, hm⟩ := hmin (orb f i (wayN f n i)) (List.ne_nil_of_mem (mem_orb.2 ⟨0, hw.pos, rfl⟩))
    obtain ⟨j, hj, e⟩ := mem_orb.1 hy
    have hyn : y < n := by rw [← e]; exact iter_lt hf j i hi
    have hpy : Per f y := by rw [← e]; exact hp.step j
    have hwy := wayN_spec hf hyn
    have hey := hwy.ends.1 hpy
    obtain ⟨j', e'⟩ := hp.back j
    rw [e] at e'
    refine ⟨orb f y (wayN f n y), ?_, ?_⟩
    · unfold cyc
      rw [cycK_eq hf hl n (Nat.le_refl _)]
      refine List.mem_map.2 ⟨y, ?_, rfl⟩
      rw [List.mem_filter, List.mem_range]
      refine ⟨hyn, ?_⟩
      unfold ringB
      rw [show lf y = true by rw [← e]; exact left_iter hf hl hi hli j, decide_eq_true hey, Bool.true_and, Bool.true_and, List.all_eq_true]
      intro z hz
      rw [decide_eq_true_iff]
      obtain ⟨q, hq, rfl⟩ := mem_orb.1 hz
      apply hm
      rw [← e, ← iter_add, mem_orb]
      refine ⟨(q + j) % wayN f n i, Nat.mod_lt _ hw.pos, ?_⟩
      conv => rhs; rw [← Nat.mod_add_div (q + j) (wayN f n i), iter_add, iter_mul he]
    · rw [List.contains_iff_mem, mem_orb]
      refine ⟨j' % wayN f n y, Nat.mod_lt _ hwy.pos, ?_⟩
      rw [← Nat.mod_add_div j' (wayN f n y), iter_add, iter_mul hey] at e'
      exact e'
theorem cyc_lt {c : List Nat} (h : c ∈ cyc f n lf) {x : Nat} (hx : x ∈ c) : x < n := by
  obtain ⟨a, ha, _, _, rfl, _⟩ := mem_cyc hf hl h
  obtain ⟨k, _, rfl⟩ := mem_orb.1 hx
  exact iter_lt hf k a ha
theorem cyc_pos {c : List Nat} (h : c ∈ cyc f n lf) : 0 < c.length := by
  obtain ⟨a, ha, _, _, rfl, _⟩ := mem_cyc hf hl h
  rw [orb_len]
  exact (wayN_spec hf ha).pos
/-- Who comes next in a cycle. -/
theorem cyc_next {c : List Nat} (h : c ∈ cyc f n lf) {k : Nat} (hk : k < c.length) : c[(k + 1) % c.length]? = some (f (c[k])) := by
  obtain ⟨a, ha, _, he, rfl, _⟩ := mem_cyc hf hl h
  have hp := (wayN_spec hf ha).pos
  simp only [orb_len] at hk ⊢
  rw [orb_get (Nat.mod_lt _ hp)]
  have e1 : (orb f a (wayN f n a))[k]'(by rw [orb_len]; exact hk) = iter f k a := by
    have := orb_get (f := f) (i := a) hk
    rw [List.getElem?_eq_getElem (by rw [orb_len]; exact hk)] at this
    exact Option.some.inj this
  rw [e1]
  congr 1
  by_cases hlt : k + 1 < wayN f n a
  · rw [Nat.mod_eq_of_lt hlt]; rfl
  · have : k + 1 = wayN f n a := by omega
    rw [this, Nat.mod_self]
    show a = f (iter f k a)
    have e2 : f (iter f k a) = iter f (k + 1) a := rfl
    rw [e2, this, he]
/-- Where somebody is left there is a ring. -/
theorem has_ring (h : anyL n lf = true) : ∃ i, i < n ∧ inC (cyc f n lf) i = true := by
  obtain ⟨i, hi, hli⟩ := anyL_iff.1 h
  have hw := wayN_spec hf hi
  obtain ⟨j, hj, e⟩ := mem_orb.1 hw.closed
  refine ⟨iter f j i, iter_lt hf j i hi, (inC_iff hf hl (iter_lt hf j i hi)).2 ⟨left_iter hf hl hi hli j, wayN f n i - j, by omega, ?_⟩⟩
  rw [← iter_add, show wayN f n i - j + j = wayN f n i by omega, e]
end
/-- How many are left. -/
def cntL (n : Nat) (lf : Nat → Bool) : Nat := (List.range n).countP lf
theorem cntL_next {f : Nat → Nat} {n : Nat} {lf : Nat → Bool} (hf : ∀ i, i < n → f i < n) (hl : ∀ i, i < n → lf i = true → lf (f i) = true) (h : anyL n lf = true) : cntL n (nextL (cyc f n lf) lf) < cntL n lf := by
  obtain ⟨i, hi, hc⟩ := has_ring hf hl h
  have hli := ((inC_iff hf hl hi).1 hc).1
  unfold cntL
  have gen : ∀ l : List Nat, i ∈ l → l.countP (nextL (cyc f n lf) lf) < l.countP lf := by
    intro l
    have le : ∀ l : List Nat, l.countP (nextL (cyc f n lf) lf) ≤ l.countP lf := fun l => List.countP_mono_left (fun x _ hx => by
      unfold nextL at hx; rw [Bool.and_eq_true] at hx; exact hx.1)
    induction l with
    | nil => intro h; cases h
    | cons a l ih =>
      intro hm
      rw [List.countP_cons, List.countP_cons]
      by_cases ha : a = i
      · subst ha
        have h1 : nextL (cyc f n lf) lf a = false := by unfold nextL; rw [hc]; simp
        rw [h1, hli]
        have := le l
        simp; omega
      · have hm' : i ∈ l := by rcases List.mem_cons.1 hm with e | e; exact absurd e.symm ha; exact e
        have h2 := ih hm'
        by_cases h3 : nextL (cyc f n lf) lf a = true
        · have h4 : lf a = true := by unfold nextL at h3; rw [Bool.and_eq_true] at h3; exact h3.1
          rw [h3, h4]; simp; omega
        · rw [if_neg h3]; split <;> omega
  exact gen _ (List.mem_range.2 hi)

/-! The rounds: F lf says whom each one points to while lf are left. -/
section
variable (F : (Nat → Bool) → Nat → Nat) (n : Nat)
def lfR : Nat → Nat → Bool
  | 0 => fun _ => true
  | r + 1 => nextL (cyc (F (lfR r)) n (lfR r)) (lfR r)
def cyR (r : Nat) : List (List Nat) := cyc (F (lfR F n r)) n (lfR F n r)
theorem lfR_succ (r : Nat) : lfR F n (r + 1) = nextL (cyR F n r) (lfR F n r) := rfl
/-- How many rounds there are. -/
def numR : Nat := ((List.range n).takeWhile fun r => anyL n (lfR F n r)).length
/-- In which round an owner goes. -/
def rdR (i : Nat) : Nat := ((List.range n).takeWhile fun r => lfR F n (r + 1) i).length
def ownR (i : Nat) : Nat := F (lfR F n (rdR F n i)) i
end
theorem takeWhile_spec {p : Nat → Bool} {n : Nat} : (∀ r, r < ((List.range n).takeWhile p).length → p r = true) ∧ (((List.range n).takeWhile p).length < n → p ((List.range n).takeWhile p).length = false) ∧ ((List.range n).takeWhile p).length ≤ n := by
  induction n with
  | zero => simp
  | succ n ih =>
    rw [List.range_succ]
    by_cases h : ((List.range n).takeWhile p).length = (List.range n).length
    · rw [List.takeWhile_append, if_pos h]
      simp only [List.length_range] at h
      have hall := ih.1
      rw [h] at hall
      by_cases hp : p n = true
      · rw [List.takeWhile_cons_of_pos hp]
        simp only [List.takeWhile_nil, List.length_append, List.length_range, List.length_cons, List.length_nil]
        refine ⟨fun r hr => ?_, fun hr => by omega, by omega⟩
        by_cases e : r = n
        · subst e; exact hp
        · exact hall r (by omega)
      · rw [List.takeWhile_cons_of_neg hp]
        simp only [List.append_nil, List.length_range]
        exact ⟨fun r hr => hall r hr, fun _ => by simpa using hp, by omega⟩
    · rw [List.takeWhile_append, if_neg h]
      have h3 := ih.2.2
      simp only [List.length_range] at h
      exact ⟨ih.1, fun _ => ih.2.1 (by omega), by omega⟩

/-- The pointing is right: it stays among those who are left. -/
structure Points (F : (Nat → Bool) → Nat → Nat) (n : Nat) : Prop where
  lt : ∀ lf i, i < n → anyL n lf = true → F lf i < n
  left : ∀ lf i, i < n → anyL n lf = true → lf (F lf i) = true
section
variable {F : (Nat → Bool) → Nat → Nat} {n : Nat} (hF : Points F n)
include hF
theorem cnt_round (r : Nat) : cntL n (lfR F n r) + r ≤ n ∨ anyL n (lfR F n r) = false := by
  induction r with
  | zero => left; unfold cntL; have := List.countP_le_length (p := lfR F n 0) (l := List.range n); simp at this; simpa using this
  | succ r ih =>
    by_cases h : anyL n (lfR F n r) = true
    · rcases ih with ih | ih
      · have := cntL_next (f := F (lfR F n r)) (fun i hi => hF.lt _ i hi h) (fun i hi _ => hF.left _ i hi h) h
        left
        rw [lfR_succ]
        unfold cyR
        omega
      · rw [h] at ih; cases ih
    · right
      rw [Bool.not_eq_true] at h
      cases h2 : anyL n (lfR F n (r + 1))
      · rfl
      · obtain ⟨i, hi, hli⟩ := anyL_iff.1 h2
        rw [lfR_succ] at hli
        unfold nextL at hli
        rw [Bool.and_eq_true] at hli
        rw [anyL_iff.2 ⟨i, hi, hli.1⟩] at h
        cases h
theorem none_left : anyL n (lfR F n n) = false := by
  rcases cnt_round hF n with h | h
  · cases h2 : anyL n (lfR F n n)
    · rfl
    · obtain ⟨i, hi, hli⟩ := anyL_iff.1 h2
      have : 0 < cntL n (lfR F n n) := List.countP_pos_iff.2 ⟨i, List.mem_range.2 hi, hli⟩
      omega
  · exact h
omit hF in
theorem left_mono {r s i : Nat} (hrs : r ≤ s) (h : lfR F n s i = true) : lfR F n r i = true := by
  induction s with
  | zero => have : r = 0 := by omega
            subst this; exact h
  | succ s ih =>
    by_cases e : r = s + 1
    · subst e; exact h
    · refine ih (by omega) ?_
      rw [lfR_succ] at h
      unfold nextL at h
      rw [Bool.and_eq_true] at h
      exact h.1
/-- A round is played as long as somebody is left. -/
theorem numR_iff {r : Nat} : r < numR F n ↔ anyL n (lfR F n r) = true := by
  obtain ⟨h1, h2, h3⟩ := takeWhile_spec (p := fun r => anyL n (lfR F n r)) (n := n)
  refine ⟨fun h => h1 r h, fun h => ?_⟩
  apply Classical.byContradiction
  intro hc
  have hle : numR F n ≤ r := by omega
  have hend : anyL n (lfR F n (numR F n)) = false := by
    by_cases hlt : numR F n < n
    · exact h2 hlt
    · have : numR F n = n := by unfold numR at hlt ⊢; omega
      rw [this]; exact none_left hF
  obtain ⟨i, hi, hli⟩ := anyL_iff.1 h
  rw [anyL_iff.2 ⟨i, hi, left_mono hle hli⟩] at hend
  cases hend
omit hF in
theorem numR_le : numR F n ≤ n := (takeWhile_spec (p := fun r => anyL n (lfR F n r)) (n := n)).2.2
/-- The round in which an owner goes. -/
theorem rdR_spec {i : Nat} (hi : i < n) : lfR F n (rdR F n i) i = true ∧ inC (cyR F n (rdR F n i)) i = true ∧ rdR F n i < numR F n := by
  obtain ⟨h1, h2, h3⟩ := takeWhile_spec (p := fun r => lfR F n (r + 1) i) (n := n)
  have hlt : rdR F n i < n := by
    apply Classical.byContradiction
    intro hc
    have e : rdR F n i = n := by unfold rdR at hc ⊢; omega
    have h4 := h1 (n - 1) (by unfold rdR at e; omega)
    rw [show n - 1 + 1 = n by omega] at h4
    have h5 := none_left hF
    rw [anyL_iff.2 ⟨i, hi, h4⟩] at h5
    cases h5
  have hl : lfR F n (rdR F n i) i = true := by
    by_cases h0 : rdR F n i = 0
    · rw [h0]; rfl
    · have h4 := h1 (rdR F n i - 1) (by unfold rdR at h0 ⊢; omega)
      rwa [show rdR F n i - 1 + 1 = rdR F n i by omega] at h4
  have hend : lfR F n (rdR F n i + 1) i = false := h2 hlt
  refine ⟨hl, ?_, (numR_iff hF).2 (anyL_iff.2 ⟨i, hi, hl⟩)⟩
  rw [lfR_succ] at hend
  unfold nextL at hend
  rw [hl, Bool.true_and] at hend
  simpa using hend
theorem rdR_uniq {i r : Nat} (hi : i < n) (hl : lfR F n r i = true) (hc : inC (cyR F n r) i = true) : rdR F n i = r := by
  obtain ⟨h1, h2, _⟩ := rdR_spec hF hi
  have e1 : lfR F n (r + 1) i = false := by rw [lfR_succ]; unfold nextL; rw [hc]; simp
  have e2 : lfR F n (rdR F n i + 1) i = false := by rw [lfR_succ]; unfold nextL; rw [h2]; simp
  apply Classical.byContradiction
  intro hne
  rcases Nat.lt_or_gt_of_ne hne with h | h
  · rw [left_mono (show rdR F n i + 1 ≤ r by omega) hl] at e2; cases e2
  · rw [left_mono (show r + 1 ≤ rdR F n i by omega) h1] at e1; cases e1
theorem round_ok {r : Nat} (h : anyL n (lfR F n r) = true) : (∀ i, i < n → F (lfR F n r) i < n) ∧ ∀ i, i < n → lfR F n r i = true → lfR F n r (F (lfR F n r) i) = true :=
  ⟨fun i hi => hF.lt _ i hi h, fun i hi _ => hF.left _ i hi h⟩
/-- Who goes in round r. -/
theorem goes_iff {i r : Nat} (hi : i < n) (h : anyL n (lfR F n r) = true) : inC (cyR F n r) i = true ↔ rdR F n i = r := by
  obtain ⟨h1, h2⟩ := round_ok hF h
  constructor
  · intro hc
    exact rdR_uniq hF hi ((inC_iff h1 h2 hi).1 hc).1 hc
  · intro e
    rw [← e]; exact (rdR_spec hF hi).2.1
/-- The deal of the rounds. -/
theorem ttc_of {pl : Nat → Nat → Nat} (hb : ∀ lf i j, i < n → j < n → lf j = true → pl i (F lf i) ≤ pl i j) : Ttc n pl (ownR F n) (rdR F n) := by
  have hok : ∀ i, i < n → anyL n (lfR F n (rdR F n i)) = true := fun i hi => anyL_iff.2 ⟨i, hi, (rdR_spec hF hi).1⟩
  have hlt : ∀ i, i < n → ownR F n i < n := fun i hi => hF.lt _ i hi (hok i hi)
  have hstay : ∀ i, i < n → rdR F n (ownR F n i) = rdR F n i := by
    intro i hi
    obtain ⟨h1, h2⟩ := round_ok hF (hok i hi)
    have hp := ((inC_iff h1 h2 hi).1 (rdR_spec hF hi).2.1)
    refine rdR_uniq hF (hlt i hi) (h2 i hi hp.1) ((inC_iff h1 h2 (hlt i hi)).2 ⟨h2 i hi hp.1, hp.2.step 1⟩)
  refine ⟨hlt, fun i j hi hj e => ?_, hstay, fun i j hi hj hr => ?_⟩
  · have hr : rdR F n i = rdR F n j := by rw [← hstay i hi, ← hstay j hj, e]
    obtain ⟨h1, h2⟩ := round_ok hF (hok i hi)
    have hpi := ((inC_iff h1 h2 hi).1 (rdR_spec hF hi).2.1).2
    have hcj := (rdR_spec hF hj).2.1
    rw [← hr] at hcj
    have hpj := ((inC_iff h1 h2 hj).1 hcj).2
    refine hpi.inj hpj ?_
    unfold ownR at e
    rw [← hr] at e
    exact e
  · exact hb _ i j hi hj (left_mono hr (rdR_spec hF hj).1)
end
end Go.Proofs.Ytpbkkekdjkmpmaa
