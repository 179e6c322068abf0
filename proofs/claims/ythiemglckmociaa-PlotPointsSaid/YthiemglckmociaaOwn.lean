/- Slices that a call has made: numbers, pairs, votes; what is appended. No program in sight. No conditions. -/
import Derived.Test.YthiemglckmociaaMem
import Derived.Deep.Onto
import Derived.Lib.SmallJoins
namespace Go.Proofs.Ythiemglckmociaa
open Go.RowKit

def cells1 (l : List Int) : List Value := l.map (Value.int .i64)
def cells2 : List (Int × Int) → List Value
  | [] => []
  | p :: l => .int .i64 p.1 :: .int .i64 p.2 :: cells2 l
def cellsV : List (Int × Bool) → List Value
  | [] => []
  | p :: l => .int .i64 p.1 :: .bool p.2 :: cellsV l
theorem cells1_length (l : List Int) : (cells1 l).length = l.length * 1 := by simp [cells1]
theorem cells2_length : ∀ l, (cells2 l).length = l.length * 2
  | [] => rfl
  | _ :: l => by simp only [cells2, List.length_cons, cells2_length l]; omega
theorem cellsV_length : ∀ l, (cellsV l).length = l.length * 2
  | [] => rfl
  | _ :: l => by simp only [cellsV, List.length_cons, cellsV_length l]; omega
theorem cells1_get {l : List Int} {i : Nat} (h : i < l.length) : (cells1 l)[i]? = some (.int .i64 (gi l 0 i)) := by simp [cells1, gi, h]
theorem cells2_get : ∀ {l : List (Int × Int)} {i : Nat}, i < l.length → (cells2 l)[i * 2]? = some (.int .i64 (gi l (0, 0) i).1) ∧ (cells2 l)[i * 2 + 1]? = some (.int .i64 (gi l (0, 0) i).2)
  | p :: l, 0, _ => by simp [cells2, gi]
  | p :: l, i + 1, h => by
    have h' := cells2_get (l := l) (i := i) (by simpa using h)
    have e1 : (i + 1) * 2 = i * 2 + 1 + 1 := by omega
    have e2 : gi (p :: l) (0, 0) (i + 1) = gi l (0, 0) i := by simp [gi]
    rw [e1, e2]
    simpa [cells2] using h'
theorem cellsV_get : ∀ {l : List (Int × Bool)} {i : Nat}, i < l.length → (cellsV l)[i * 2]? = some (.int .i64 (gi l (0, false) i).1) ∧ (cellsV l)[i * 2 + 1]? = some (.bool (gi l (0, false) i).2)
  | p :: l, 0, _ => by simp [cellsV, gi]
  | p :: l, i + 1, h => by
    have h' := cellsV_get (l := l) (i := i) (by simpa using h)
    have e1 : (i + 1) * 2 = i * 2 + 1 + 1 := by omega
    have e2 : gi (p :: l) (0, false) (i + 1) = gi l (0, false) i := by simp [gi]
    rw [e1, e2]
    simpa [cellsV] using h'
theorem cells1_append (l m : List Int) : cells1 (l ++ m) = cells1 l ++ cells1 m := by simp [cells1]
theorem cells2_append : ∀ l m, cells2 (l ++ m) = cells2 l ++ cells2 m
  | [], _ => rfl
  | p :: l, m => by simp [cells2, cells2_append l m]
theorem cells1_one : ∀ (l : List Int), ∀ u ∈ cells1 l, u.oneCell' = true := by
  intro l u hu
  simp only [cells1, List.mem_map] at hu
  obtain ⟨x, _, rfl⟩ := hu; rfl
theorem cells2_one : ∀ (l : List (Int × Int)), ∀ u ∈ cells2 l, u.oneCell' = true
  | [], u, hu => by simp [cells2] at hu
  | p :: l, u, hu => by
    simp only [cells2, List.mem_cons] at hu
    rcases hu with rfl | rfl | hu
    · rfl
    · rfl
    · exact cells2_one l u hu
theorem cellsV_one : ∀ (l : List (Int × Bool)), ∀ u ∈ cellsV l, u.oneCell' = true
  | [], u, hu => by simp [cellsV] at hu
  | p :: l, u, hu => by
    simp only [cellsV, List.mem_cons] at hu
    rcases hu with rfl | rfl | hu
    · rfl
    · rfl
    · exact cellsV_one l u hu
theorem cells2_set : ∀ {l : List (Int × Int)} {i : Nat} {x : Int}, (cells2 l).set (i * 2) (.int .i64 x) = cells2 (l.set i (x, (gi l (0, 0) i).2))
  | [], i, x => by simp [cells2]
  | p :: l, 0, x => by simp [cells2, gi]
  | p :: l, i + 1, x => by
    have e1 : (i + 1) * 2 = i * 2 + 1 + 1 := by omega
    have e2 : gi (p :: l) (0, 0) (i + 1) = gi l (0, 0) i := by simp [gi]
    rw [e1, e2]
    simp [cells2, cells2_set (l := l) (i := i)]
theorem cellsV_set : ∀ {l : List (Int × Bool)} {i : Nat} {y : Bool}, (cellsV l).set (i * 2 + 1) (.bool y) = cellsV (l.set i ((gi l (0, false) i).1, y))
  | [], i, y => by simp [cellsV]
  | p :: l, 0, y => by simp [cellsV, gi]
  | p :: l, i + 1, y => by
    have e1 : (i + 1) * 2 = i * 2 + 1 + 1 := by omega
    have e2 : gi (p :: l) (0, false) (i + 1) = gi l (0, false) i := by simp [gi]
    rw [e1, e2]
    simp [cellsV, cellsV_set (l := l) (i := i)]

/-- What is owned lies in memory. -/
theorem own_ints {w : World} {base e : Nat} {v : Value} {l : List Int} (h : w.ownsRow base e 1 v l.length (cells1 l)) : IntsAt w v l := by
  rcases id h with ⟨_, ⟨rfl, h0⟩ | ⟨g, cap, cur, rfl, hb, hg, hn, hm, hs, ht⟩⟩
  · rw [List.length_eq_zero_iff] at h0; subst h0; exact ints0 _ _ _ (by decide)
  · refine ⟨_, cap, rfl, hn, by unfold maxLen at hm; omega, fun i hi => ⟨g, 0, rfl, (Array.getElem?_eq_some_iff.1 hg).1, ?_⟩⟩
    rw [Nat.zero_add, h.cellAt i (by omega), cells1_get hi]
theorem own_pairs {w : World} {base e : Nat} {v : Value} {l : List (Int × Int)} (h : w.ownsRow base e 2 v l.length (cells2 l)) : PairsAt w v l := by
  rcases id h with ⟨_, ⟨rfl, h0⟩ | ⟨g, cap, cur, rfl, hb, hg, hn, hm, hs, ht⟩⟩
  · rw [List.length_eq_zero_iff] at h0; subst h0; exact pairs0 _ _ _ (by decide)
  · refine ⟨_, cap, rfl, hn, by unfold maxLen at hm; omega, fun i hi => ⟨g, 0, rfl, (Array.getElem?_eq_some_iff.1 hg).1, ?_⟩⟩
    obtain ⟨h1, h2⟩ := cells2_get hi
    rw [Nat.zero_add, h.cellAt (i * 2) (by omega), h.cellAt (i * 2 + 1) (by omega)]
    exact ⟨h1, h2⟩
theorem own_votes {w : World} {base e : Nat} {v : Value} {l : List (Int × Bool)} (h : w.ownsRow base e 2 v l.length (cellsV l)) : VotesAt w v l := by
  rcases id h with ⟨_, ⟨rfl, h0⟩ | ⟨g, cap, cur, rfl, hb, hg, hn, hm, hs, ht⟩⟩
  · rw [List.length_eq_zero_iff] at h0; subst h0; exact ⟨_, _, rfl, by simp, by decide, fun i hi => absurd hi (by simp)⟩
  · refine ⟨_, cap, rfl, hn, by unfold maxLen at hm; omega, fun i hi => ⟨g, 0, rfl, (Array.getElem?_eq_some_iff.1 hg).1, ?_⟩⟩
    obtain ⟨h1, h2⟩ := cellsV_get hi
    rw [Nat.zero_add, h.cellAt (i * 2) (by omega), h.cellAt (i * 2 + 1) (by omega)]
    exact ⟨h1, h2⟩

theorem addr_add (b o j : Nat) : (⟨b, o, none⟩ : Addr).add j = ⟨b, o + j, none⟩ := by
  unfold Addr.add
  by_cases h : j = 0
  · subst h; simp
  · simp [h]

/-- What lies in memory, cell by cell: a source that is appended. -/
theorem ints_source {w : World} {a : Option Addr} {cap : Nat} {l : List Int} (h : IntsAt w (.slice a l.length cap) l) (hl : 0 < l.length) :
    ∃ b o, a = some ⟨b, o, none⟩ ∧ ∀ j u, (cells1 l)[j]? = some u → w.cell? ((⟨b, o, none⟩ : Addr).add j) = some u := by
  obtain ⟨a', cap', e, _, _, hc⟩ := h
  simp only [Value.slice.injEq] at e
  obtain ⟨rfl, _, rfl⟩ := e
  obtain ⟨b, o, rfl, _, _⟩ := hc 0 hl
  refine ⟨b, o, rfl, fun j u hu => ?_⟩
  have hj : j < l.length := by
    have := (List.getElem?_eq_some_iff.1 hu).1
    rw [cells1_length] at this; omega
  obtain ⟨b', o', e, _, hcj⟩ := hc j hj
  simp only [Option.some.injEq, Addr.mk.injEq, and_true] at e
  obtain ⟨rfl, rfl⟩ := e
  rw [cells1_get hj] at hu
  rw [addr_add, hcj, hu]
theorem two_source {α : Type} {w : World} {b o : Nat} {l : List α} {f : List Value} (x y : Nat → Value) (hlen : f.length = l.length * 2)
    (hf : ∀ i, i < l.length → f[i * 2]? = some (x i) ∧ f[i * 2 + 1]? = some (y i)) (hc : ∀ i, i < l.length → w.cell? ⟨b, o + i * 2, none⟩ = some (x i) ∧ w.cell? ⟨b, o + i * 2 + 1, none⟩ = some (y i)) :
    ∀ j u, f[j]? = some u → w.cell? ((⟨b, o, none⟩ : Addr).add j) = some u := by
  intro j u hu
  have hj : j < l.length * 2 := by
    have := (List.getElem?_eq_some_iff.1 hu).1
    omega
  rw [addr_add]
  obtain ⟨f1, f2⟩ := hf (j / 2) (by omega)
  obtain ⟨c1, c2⟩ := hc (j / 2) (by omega)
  by_cases hp : j % 2 = 0
  · rw [show j / 2 * 2 = j by omega] at f1 c1
    rw [c1, ← f1, hu]
  · rw [show j / 2 * 2 + 1 = j by omega] at f2
    rw [show o + j / 2 * 2 + 1 = o + j by omega] at c2
    rw [c2, ← f2, hu]
theorem pairs_source {w : World} {a : Option Addr} {cap : Nat} {l : List (Int × Int)} (h : PairsAt w (.slice a l.length cap) l) (hl : 0 < l.length) :
    ∃ b o, a = some ⟨b, o, none⟩ ∧ ∀ j u, (cells2 l)[j]? = some u → w.cell? ((⟨b, o, none⟩ : Addr).add j) = some u := by
  obtain ⟨a', cap', e, _, _, hc⟩ := h
  simp only [Value.slice.injEq] at e
  obtain ⟨rfl, _, rfl⟩ := e
  obtain ⟨b, o, rfl, _, _, _⟩ := hc 0 hl
  refine ⟨b, o, rfl, two_source (l := l) (fun i => .int .i64 (gi l (0, 0) i).1) (fun i => .int .i64 (gi l (0, 0) i).2) (cells2_length l) (fun i hi => cells2_get hi) (fun i hi => ?_)⟩
  obtain ⟨b', o', e, _, h1, h2⟩ := hc i hi
  simp only [Option.some.injEq, Addr.mk.injEq, and_true] at e
  obtain ⟨rfl, rfl⟩ := e
  exact ⟨h1, h2⟩
theorem votes_source {w : World} {a : Option Addr} {cap : Nat} {l : List (Int × Bool)} (h : VotesAt w (.slice a l.length cap) l) (hl : 0 < l.length) :
    ∃ b o, a = some ⟨b, o, none⟩ ∧ ∀ j u, (cellsV l)[j]? = some u → w.cell? ((⟨b, o, none⟩ : Addr).add j) = some u := by
  obtain ⟨a', cap', e, _, _, hc⟩ := h
  simp only [Value.slice.injEq] at e
  obtain ⟨rfl, _, rfl⟩ := e
  obtain ⟨b, o, rfl, _, _, _⟩ := hc 0 hl
  refine ⟨b, o, rfl, two_source (l := l) (fun i => .int .i64 (gi l (0, false) i).1) (fun i => .bool (gi l (0, false) i).2) (cellsV_length l) (fun i hi => cellsV_get hi) (fun i hi => ?_)⟩
  obtain ⟨b', o', e, _, h1, h2⟩ := hc i hi
  simp only [Option.some.injEq, Addr.mk.injEq, and_true] at e
  obtain ⟨rfl, rfl⟩ := e
  exact ⟨h1, h2⟩
/-- A slice of the call's own is written, or grows: what lay there when the call began lies there still. -/
theorem below_grow {a w w' : World} {row : Option Nat} (h : Below a.heap.size a w) (hg : w.grownBy w' row) (hr : ∀ k, row = some k → a.heap.size ≤ k) : Below a.heap.size a w' := h.grown hg h.size hr
end Go.Proofs.Ythiemglckmociaa
