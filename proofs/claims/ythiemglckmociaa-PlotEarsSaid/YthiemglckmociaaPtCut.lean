/- Which sides stand in the way of a line, as the program asks; a list twice as large. No conditions. -/
import Derived.Test.YthiemglckmociaaPtSplit2
import Derived.Test.YthiemglckmociaaPtMin
namespace Go.Proofs.Ythiemglckmociaa
open Go.RowKit

/-- Does a side stand in the way, as the program asks? -/
def progCut (pa pb pi pj : Int × Int) : Bool :=
  if ((pa.1, pa.2) == (pi.1, pi.2)) || ((pa.1, pa.2) == (pj.1, pj.2)) then onB pi pj pb || (onB pa pb pi && onB pa pb pj)
  else if ((pb.1, pb.2) == (pi.1, pi.2)) || ((pb.1, pb.2) == (pj.1, pj.2)) then onB pi pj pa || (onB pa pb pi && onB pa pb pj)
  else touchB pa pb pi pj
theorem on_self1 (a b : Int × Int) : onB a b a = true := by
  unfold onB turn dot; simp
theorem on_self2 (a b : Int × Int) : onB a b b = true := by
  unfold onB turn dot; simp; grind
theorem on_turned (a b x : Int × Int) : onB a b x = onB b a x := by
  have e1 : turn b a x = - turn a b x := by unfold turn; grind
  have e2 : dot x b a = dot x a b := by unfold dot; grind
  unfold onB
  rw [e1, e2]
  have : (-turn a b x == 0) = (turn a b x == 0) := by rw [Bool.eq_iff_iff]; simp
  rw [this]
theorem cut_prog {l : List (Int × Int)} (hv : Valid l) {i j k : Nat} (hi : i < l.length) (hj : j < l.length) (hn : nextTo l.length i j = false) (hk : k < l.length) :
    cutB l i j k = progCut (cor l k) (cor l (k + 1)) (cor l i) (cor l j) := by
  have hij : i ≠ j := by
    simp only [nextTo, Bool.or_eq_false_iff, beq_eq_false_iff_ne] at hn
    exact hn.1.1
  have h0 : 0 < l.length := by omega
  have hm : (k + 1) % l.length < l.length := Nat.mod_lt _ h0
  have eb : cor l (k + 1) = cor l ((k + 1) % l.length) := by have := cor_mod l (k + 1) 0; simpa using this.symm
  have inj : ∀ a b, a < l.length → b < l.length → a ≠ b → cor l a ≠ cor l b := fun a b ha hb hab e => hab (hv.simple.inj a b ha hb e)
  have hkk : k ≠ (k + 1) % l.length := by
    have := hv.lo
    rcases Nat.lt_or_ge (k + 1) l.length with c | c
    · rw [Nat.mod_eq_of_lt c]; omega
    · rw [show k + 1 = l.length by omega, Nat.mod_self]; omega
  have yes : ∀ a : Int × Int, ((a.1, a.2) == (a.1, a.2)) = true := fun a => by simp
  unfold cutB progCut
  by_cases c1 : k = i
  · rw [if_pos c1, c1, yes, Bool.true_or, if_pos rfl, on_self1, Bool.true_and]
    subst c1
    rw [back_iff (by rw [eb]; exact inj _ _ hk hm hkk) (inj _ _ hk hj hij), Bool.or_comm]
  · rw [if_neg c1, eq_no (inj k i hk hi c1)]
    by_cases c2 : k = j
    · rw [if_pos c2, c2, yes, Bool.false_or, if_pos rfl, on_self1, Bool.and_true]
      subst c2
      rw [back_iff (by rw [eb]; exact inj _ _ hk hm hkk) (inj _ _ hk hi c1), Bool.or_comm, on_turned (cor l k) (cor l i)]
    · rw [if_neg c2, eq_no (inj k j hk hj c2), Bool.or_false, if_neg (show ¬ ((false : Bool) = true) by decide)]
      by_cases c3 : (k + 1) % l.length = i
      · rw [if_pos c3, eb, c3, yes, Bool.true_or, if_pos rfl, on_self2, Bool.true_and]
        rw [back_iff (inj _ _ hi hk (fun e => c1 e.symm)) (inj _ _ hi hj hij), Bool.or_comm, on_turned (cor l k) (cor l i)]
      · rw [if_neg c3]
        have e3 : (((cor l (k + 1)).1, (cor l (k + 1)).2) == ((cor l i).1, (cor l i).2)) = false := by rw [eb]; exact eq_no (inj _ _ hm hi c3)
        rw [e3, Bool.false_or]
        by_cases c4 : (k + 1) % l.length = j
        · rw [if_pos c4, eb, c4, yes, if_pos rfl, on_self2, Bool.and_true]
          rw [back_iff (inj _ _ hj hk (fun e => c2 e.symm)) (inj _ _ hj hi (fun e => hij e.symm)), Bool.or_comm, on_turned (cor l k) (cor l j), on_turned (cor l i) (cor l j)]
        · rw [if_neg c4]
          have e4 : (((cor l (k + 1)).1, (cor l (k + 1)).2) == ((cor l j).1, (cor l j).2)) = false := by rw [eb]; exact eq_no (inj _ _ hm hj c4)
          rw [e4, if_neg (show ¬ ((false : Bool) = true) by decide)]
theorem where_simple {l : List (Int × Int)} (h : Simple (cor l) l.length) (x : Int × Int) : whereP l x = sideF l x := by
  unfold whereP sideF
  cases ho : onAny l x
  · simp only [Bool.false_eq_true, if_false]
    have h1 := h.around (onAny_none ho)
    have h2 := h.lam01
    have h3 := inK_par l x l.length
    rw [windK_wsum] at h3 ⊢
    by_cases h4 : wsum (cor l) l.length x = 0
    · rw [if_pos h4]; omega
    · rw [if_neg h4]; omega
  · rfl
/-- Ten places, the first k of them the corners twice as large. -/
def dbK (l : List (Int × Int)) (k : Nat) : List (Int × Int) := (List.range 10).map fun m => if m < k then sc 2 (gi l (0, 0) m) else (0, 0)
theorem dbK_length (l : List (Int × Int)) (k : Nat) : (dbK l k).length = 10 := by simp [dbK]
theorem dbK_succ (l : List (Int × Int)) (k : Nat) : dbK l (k + 1) = (dbK l k).set k (sc 2 (gi l (0, 0) k)) := by
  refine List.ext_getElem (by simp [dbK]) fun m h1 h2 => ?_
  rw [List.getElem_set]
  simp only [dbK, List.getElem_map, List.getElem_range]
  by_cases c : k = m
  · rw [if_pos c, if_pos (by omega), c]
  · rw [if_neg c]
    by_cases c2 : m < k
    · rw [if_pos c2, if_pos (by omega)]
    · rw [if_neg c2, if_neg (by omega)]
theorem dbK_all (l : List (Int × Int)) (h : l.length ≤ 10) : (dbK l l.length).take l.length = dblL l := by
  refine List.ext_getElem (by simp [dbK, dblL]; omega) fun m h1 h2 => ?_
  have hm : m < l.length := by rw [dbl_length] at h2; exact h2
  simp [dbK, dblL, hm, gi_lt (l := l) (d := (0, 0)) hm]
theorem splitB_no {l : List (Int × Int)} {i j : Nat} (h : nextTo l.length i j = true) : splitB l i j = false := by unfold splitB; rw [h]; rfl
theorem splitB_cut {l : List (Int × Int)} {i j : Nat} (h : anyN (cutB l i j) l.length = true) : splitB l i j = false := by unfold splitB; rw [h]; simp
theorem splitB_mid {l : List (Int × Int)} {i j : Nat} (hn : nextTo l.length i j = false) (h : anyN (cutB l i j) l.length = false) : splitB l i j = (sideF (dblL l) (midL l i j) == 1) := by unfold splitB; rw [hn, h]; rfl
theorem dbl_bd {l : List (Int × Int)} (hv : Valid l) (k : Nat) : bdP (cor (dblL l) k) := by
  have h3 := hv.lo
  rw [cor_dbl (by omega)]
  have := hv.rng k
  unfold bdP sc; simp only; omega
theorem mid_bd {l : List (Int × Int)} (hv : Valid l) (i j : Nat) : bdP (midL l i j) := by
  have h1 := hv.rng i
  have h2 := hv.rng j
  unfold bdP midL mid2; simp only; omega
end Go.Proofs.Ythiemglckmociaa
