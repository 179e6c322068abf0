/- Which lists are orders, and which rows of lists are right. Conditions: the lists lie in memory as said. -/
import Derived.Test.YtpbkkekdjkmpmaaSwLow
namespace Go.Proofs.Ytpbkkekdjkmpmaa
open Go.RowKit

/-- Each number from 0 to n - 1 lies in l (from k on). -/
def allIn (l : List Int) (n k : Nat) : Bool := decide (∀ i, i < n → k ≤ i → hasB l i = true)
def ordB (l : List Int) (n : Nat) : Bool := decide (l.length = n) && allIn l n 0
theorem allIn_yes {l : List Int} {n k : Nat} (h : hasB l k = true) : allIn l n k = allIn l n (k + 1) := by
  unfold allIn
  rw [decide_eq_decide]
  refine ⟨fun H i hi hk => H i hi (by omega), fun H i hi hk => ?_⟩
  by_cases e : i = k
  · subst e; exact h
  · exact H i hi (by omega)
theorem allIn_no {l : List Int} {n k : Nat} (hk : k < n) (h : hasB l k = false) : allIn l n k = false := by
  unfold allIn
  rw [decide_eq_false_iff_not]
  intro H
  rw [H k hk (Nat.le_refl _)] at h; cases h
theorem allIn_end {l : List Int} {n : Nat} : allIn l n n = true := by
  unfold allIn
  rw [decide_eq_true_iff]
  intro i h1 h2; omega
theorem ordB_iff {l : List Int} {n : Nat} : ordB l n = true ↔ l.length = n ∧ ∀ i : Nat, i < n → (i : Int) ∈ l := by
  unfold ordB allIn
  rw [Bool.and_eq_true, decide_eq_true_iff, decide_eq_true_iff]
  exact ⟨fun ⟨h1, h2⟩ => ⟨h1, fun i hi => hasB_iff.1 (h2 i hi (Nat.zero_le _))⟩, fun ⟨h1, h2⟩ => ⟨h1, fun i hi _ => hasB_iff.2 (h2 i hi)⟩⟩
/-- The numbers are in range, and no number lies twice. -/
def freshB (l : List Int) (i k : Nat) : Bool := decide (∀ j, j < i → k ≤ j → gi l 0 j ≠ gi l 0 i)
def goodB (l : List Int) (n k : Nat) : Bool := decide (∀ i, i < n → k ≤ i → (0 ≤ gi l 0 i ∧ gi l 0 i ≤ (n : Int) - 1) ∧ freshB l i 0 = true)
theorem freshB_no {l : List Int} {i k : Nat} (hk : k < i) (h : (gi l 0 k == gi l 0 i) = true) : freshB l i k = false := by
  unfold freshB
  rw [decide_eq_false_iff_not]
  intro H
  exact H k hk (Nat.le_refl _) (by simpa using h)
theorem freshB_yes {l : List Int} {i k : Nat} (h : (gi l 0 k == gi l 0 i) = false) : freshB l i k = freshB l i (k + 1) := by
  unfold freshB
  rw [decide_eq_decide]
  refine ⟨fun H j hj hk => H j hj (by omega), fun H j hj hk => ?_⟩
  by_cases e : j = k
  · subst e; simpa using h
  · exact H j hj (by omega)
theorem freshB_end {l : List Int} {i : Nat} : freshB l i i = true := by
  unfold freshB
  rw [decide_eq_true_iff]
  intro j h1 h2; omega
theorem goodB_yes {l : List Int} {n k : Nat} (h : (decide (0 ≤ gi l 0 k) && decide (gi l 0 k ≤ (n : Int) - 1)) = true) (hf : freshB l k 0 = true) : goodB l n k = goodB l n (k + 1) := by
  unfold goodB
  rw [Bool.and_eq_true, decide_eq_true_iff, decide_eq_true_iff] at h
  rw [decide_eq_decide]
  refine ⟨fun H i hi hk => H i hi (by omega), fun H i hi hk => ?_⟩
  by_cases e : i = k
  · subst e; exact ⟨h, hf⟩
  · exact H i hi (by omega)
theorem goodB_no {l : List Int} {n k : Nat} (hk : k < n) (h : (decide (0 ≤ gi l 0 k) && decide (gi l 0 k ≤ (n : Int) - 1)) = false) : goodB l n k = false := by
  unfold goodB
  rw [decide_eq_false_iff_not]
  intro H
  have := (H k hk (Nat.le_refl _)).1
  rw [Bool.and_eq_false_iff, decide_eq_false_iff_not, decide_eq_false_iff_not] at h
  omega
theorem goodB_no2 {l : List Int} {n k : Nat} (hk : k < n) (h : freshB l k 0 = false) : goodB l n k = false := by
  unfold goodB
  rw [decide_eq_false_iff_not]
  intro H
  have := (H k hk (Nat.le_refl _)).2
  rw [this] at h; cases h
theorem goodB_end {l : List Int} {n : Nat} : goodB l n n = true := by
  unfold goodB
  rw [decide_eq_true_iff]
  intro i h1 h2; omega
theorem range_in {l : List Int} {n : Nat} (h : ∀ i : Nat, i < n → (i : Int) ∈ l) : n ≤ l.length := by
  have h1 : ((List.range n).map (fun i : Nat => (i : Int))).Nodup := by
    rw [List.nodup_iff_pairwise_ne, List.pairwise_map]
    have h := List.nodup_range (n := n)
    rw [List.nodup_iff_pairwise_ne] at h
    exact h.imp (fun hab e => hab (by omega))
  have h2 : ((List.range n).map (fun i : Nat => (i : Int))) ⊆ l := by
    intro x hx
    obtain ⟨i, hi, rfl⟩ := List.mem_map.1 hx
    exact h i (List.mem_range.1 hi)
  simpa using h1.length_le_of_subset h2
theorem erased {l : List Int} {i j : Nat} (hj : j < l.length) (h : j ≠ i) : gi l 0 j ∈ l.eraseIdx i := by
  rw [List.mem_eraseIdx_iff_getElem?]
  exact ⟨j, h, by simp [gi, hj]⟩
theorem ord_good {l : List Int} {n : Nat} (hl : l.length = n) : allIn l n 0 = goodB l n 0 := by
  rw [Bool.eq_iff_iff]
  unfold allIn goodB freshB
  simp only [decide_eq_true_iff, Nat.zero_le, true_implies]
  constructor
  · intro H
    have H' : ∀ i : Nat, i < n → (i : Int) ∈ l := fun i hi => hasB_iff.1 (H i hi)
    have key : ∀ i, i < n → ¬ ∀ k : Nat, k < n → (k : Int) ∈ l.eraseIdx i := by
      intro i hi h
      have := range_in h
      rw [List.length_eraseIdx_of_lt (by omega)] at this
      omega
    have at_ : ∀ k : Nat, k < n → ∃ j, j < n ∧ gi l 0 j = k := by
      intro k hk
      obtain ⟨j, hj, e⟩ := List.mem_iff_getElem.1 (H' k hk)
      exact ⟨j, by omega, by rw [gi_lt hj, e]⟩
    intro i hi
    constructor
    · apply Classical.byContradiction
      intro hc
      refine key i hi fun k hk => ?_
      obtain ⟨j, hj, e⟩ := at_ k hk
      rw [← e]
      refine erased (by omega) ?_
      intro e2
      subst e2
      rw [e] at hc
      omega
    · intro j hj e
      refine key i hi fun k hk => ?_
      obtain ⟨m, hm, e2⟩ := at_ k hk
      by_cases hmi : m = i
      · subst hmi
        rw [← e2, ← e]
        exact erased (by omega) (by omega)
      · rw [← e2]
        exact erased (by omega) hmi
  · intro H i hi
    rw [hasB_iff]
    apply Classical.byContradiction
    intro hc
    have h1 : ((List.range n).map (fun k => (gi l 0 k).toNat)).Nodup := by
      rw [List.nodup_iff_pairwise_ne, List.pairwise_map, List.pairwise_iff_getElem]
      intro a b ha hb hab
      simp only [List.length_range] at ha hb
      simp only [List.getElem_range]
      intro e
      have h3 := (H a (by omega)).1
      have h4 := (H b (by omega)).1
      exact (H b (by omega)).2 a hab (by omega)
    have h2 : ((List.range n).map (fun k => (gi l 0 k).toNat)) ⊆ (List.range n).erase i := by
      intro x hx
      obtain ⟨k, hk, rfl⟩ := List.mem_map.1 hx
      have hk' := List.mem_range.1 hk
      have h3 := (H k hk').1
      rw [List.Nodup.mem_erase_iff List.nodup_range]
      refine ⟨fun e => hc ?_, List.mem_range.2 (by omega)⟩
      have : gi l 0 k = (i : Int) := by omega
      rw [← this, gi_lt (by omega)]
      exact List.getElem_mem _
    have := h1.length_le_of_subset h2
    rw [List.length_erase_of_mem (List.mem_range.2 hi)] at this
    simp at this
    omega

theorem contains_is {v : Value} {l : List Int} {x : Int} {t : Bool} {w : World} (h : IntsAt w v l) (ht : hasB l x = t) :
    Same Try.prog 52 #[v, .int .i64 x] w (.bool t) := ht ▸ contains_ints v l x w h
set_option maxHeartbeats 400000 in
theorem isOrder_is (v : Value) (l : List Int) (n : Nat) (w : World) (h : IntsAt w v l) (hn : n ≤ 5) :
    Same Try.prog 34 #[v, .int .i64 n] w (.bool (ordB l n)) := by
  have HL := Lib.hid h
  obtain ⟨a, cap, rfl, hlc, hcm, -⟩ := h
  unfold Same
  by_cases hl : l.length = n
  · subst hl
    have H0 : Hid (ordB l l.length = allIn l l.length 0) := by show ordB l l.length = _; unfold ordB; rw [decide_eq_true rfl, Bool.true_and]
    have t1 : ((l.length : Int) != (l.length : Int)) = false := by simp
    go_enter Try.func34, Try.ntmps34
    go_wp2
    go_loop [11] (fun i => ∃ k : Nat, k ≤ l.length ∧ i = .int .i64 k ∧ Hid (allIn l l.length 0 = allIn l l.length k)) (fun i => l.length - (intOf i).toNat)
    case atStart => exact ⟨0, Nat.zero_le _, rfl, rfl⟩
    case round =>
      obtain ⟨k, hk, rfl, hr⟩ := hrel
      by_cases hlt : k < l.length
      · cases hx : hasB l k
        · have H1 := Lib.hid (allIn_no hlt hx)
          have HX := Lib.hid hx
          clear hx
          go_wp2_with (go_at_call 52; go_loud (refine (contains_is HL.out HX.out).use ?_))
          go_ret
          exact ⟨ret_bool (by rw [H0.out, hr.out, H1.out]), rfl⟩
        · have H1 := Lib.hid (allIn_yes (n := l.length) hx)
          have HX := Lib.hid hx
          clear hx
          go_wp2_with (go_at_call 52; go_loud (refine (contains_is HL.out HX.out).use ?_))
          go_round
          case rel => exact ⟨k + 1, by omega, by go_num, by unfold Hid; rw [hr.out, H1.out]⟩
          case measure => simp [intOf]; omega
      · obtain rfl : k = l.length := by omega
        have H1 := Lib.hid (allIn_end (l := l) (n := l.length))
        go_wp2
        go_ret
        exact ⟨ret_bool (by rw [H0.out, hr.out, H1.out]), rfl⟩
  · have H0 : Hid (ordB l n = false) := by show ordB l n = _; unfold ordB; rw [decide_eq_false hl, Bool.false_and]
    have t1 : ((l.length : Int) != (n : Int)) = true := by simp; omega
    clear hl
    go_enter Try.func34, Try.ntmps34
    go_wp2
    go_ret
    exact ⟨ret_bool H0.out.symm, rfl⟩

set_option maxHeartbeats 400000 in
theorem within_is (n lo hi : Int) (w : World) :
    Same Try.prog 30 #[.int .i64 n, .int .i64 lo, .int .i64 hi] w (.bool (decide (lo ≤ n) && decide (n ≤ hi))) := by
  unfold Same
  by_cases h : lo ≤ n
  · have t1 : decide (lo ≤ n) = true := decide_eq_true h
    go_enter Try.func30, Try.ntmps30
    go_wp2
    go_ret
    exact ⟨ret_bool (by rw [t1, Bool.true_and]), rfl⟩
  · have t1 : decide (lo ≤ n) = false := decide_eq_false h
    go_enter Try.func30, Try.ntmps30
    go_wp2
    go_ret
    exact ⟨rfl, rfl⟩
end Go.Proofs.Ytpbkkekdjkmpmaa
