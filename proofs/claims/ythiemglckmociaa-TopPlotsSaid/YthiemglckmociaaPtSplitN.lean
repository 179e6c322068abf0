/- What splits of package plot gives at neighbours, and what numbered gives. Conditions: the list lies in memory as said; it is a plot for splits. -/
import Derived.Test.YthiemglckmociaaPtCutA
import Derived.Test.YthiemglckmociaaPtKnown
import Derived.BigRegionIn
namespace Go.Proofs.Ythiemglckmociaa
open Go.RowKit Go.Shelf
attribute [local go_sem] Oper.semAt_some wide_fn

set_option maxHeartbeats 4000000 in
set_option maxRecDepth 100000 in
theorem splits_yes (v : Value) (l : List (Int × Int)) (i j : Nat) (w : World) (h : PairsAt w v l) (hv : Valid l) (hi : i < l.length) (hj : j < l.length) (hn : nextTo l.length i j = true) :
    Gives Try.prog 86 #[v, .int .i64 i, .int .i64 j] w (.bool (splitB l i j)) := by
  rw [splitB_no hn]
  have h3 := hv.lo
  have h10 := hv.hi
  obtain ⟨sa, cap, rfl, hlc, hcm, -⟩ := h
  obtain ⟨ni, hni⟩ : ∃ m : Nat, (i + 1) % l.length = m := ⟨_, rfl⟩
  obtain ⟨nj, hnj⟩ : ∃ m : Nat, (j + 1) % l.length = m := ⟨_, rfl⟩
  simp only [nextTo] at hn
  rw [hni, hnj] at hn
  have r1 : ((i : Int) + 1).tmod (l.length : Int) = (ni : Int) := by
    rw [Int.tmod_eq_emod_of_nonneg (by omega), ← hni, Int.natCast_emod]; rfl
  have r2 : ((j : Int) + 1).tmod (l.length : Int) = (nj : Int) := by
    rw [Int.tmod_eq_emod_of_nonneg (by omega), ← hnj, Int.natCast_emod]; rfl
  have hl0 : ¬ l = [] := fun e => by rw [e] at h3; simp at h3
  have hw1 : IntKind.i64.wrap ((i : Int) + 1) = (i : Int) + 1 := IntWalk.i64_in _ (by omega)
  have hw2 : IntKind.i64.wrap ((j : Int) + 1) = (j : Int) + 1 := IntWalk.i64_in _ (by omega)
  clear hv hni hnj
  unfold Gives
  have hc : (i = j) ∨ (i ≠ j ∧ ni = j) ∨ (i ≠ j ∧ ni ≠ j ∧ nj = i) := by
    simp only [Bool.or_eq_true, beq_iff_eq] at hn
    omega
  clear hn
  rcases hc with hc | ⟨hc, hd⟩ | ⟨hc, hd, he⟩
  · have x1 : ((i : Int) == (j : Int)) = true := by rw [hc]; simp
    have HC := Lib.hid hc
    clear hc
    refine (callsIn_wide (n := 9)).1 ?_
    refine callsIn_of_wp_marks Try.func86 rfl trivial ?_ rfl
    simp only [Try.ntmps86, List.size_toArray, List.length_cons, List.length_nil, Nat.reduceAdd, Nat.reduceSub, Array.replicate_succ, Array.replicate_zero, List.push_toArray, List.append_toArray, List.nil_append, List.cons_append]
    gi_wp2
    obtain ⟨W1, hW1⟩ : ∃ W1, ((((w.alloc (.cells #[.slice sa l.length cap] 22)).alloc (.cells #[.int .i64 i] 3)).alloc (.cells #[.int .i64 j] 3)).alloc (.cells #[.bool false] 4)) = W1 := ⟨_, rfl⟩
    rw [hW1]
    have hB1 : Below w.heap.size w W1 := by rw [← hW1]; (repeat' (first | exact Below.refl _ _ | assumption | refine below_new ?_ _ | refine below_draw ?_ | refine below_tail (by assumption) ?_ | refine below_set ?_ (by first | omega | (simp <;> omega)) _))
    have e1 : W1.cell? ⟨w.heap.size + 1, 0, none⟩ = some (.int .i64 i) := by rw [← hW1]; simp [go_sem]
    have e2 : W1.cell? ⟨w.heap.size + 1 + 1, 0, none⟩ = some (.int .i64 j) := by rw [← hW1]; simp [go_sem]
    have e3 : W1.cell? ⟨w.heap.size + 1 + 1 + 1, 0, none⟩ = some (.bool false) := by rw [← hW1]; simp [go_sem]
    have e4 : W1.frozen? ⟨w.heap.size + 1 + 1 + 1, 0, none⟩ = false := by rw [← hW1]; simp [go_sem]
    clear hW1
    have q1 := fun dr os => cell_regrown e1 dr os
    have q2 := fun dr os => cell_regrown e2 dr os
    refine wpIn_wide.2 (region_q mixed (by kernel_rfl) ?_)
    repeat (go_big_quiet_step (fail))
    refine wpQuiet_nil ?_
    intro wq hbq
    replace e4 := (hbq.frozen (p := ⟨w.heap.size + 1 + 1 + 1, 0, none⟩) (block_lt_of_cell e3)).trans e4
    replace e3 := (hbq.cell (p := ⟨w.heap.size + 1 + 1 + 1, 0, none⟩) (block_lt_of_cell e3)).trans e3
    clear q1 q2
    gi_wp2
    have hr : (wq.setCell ⟨w.heap.size + 1 + 1 + 1, 0, none⟩ (.bool false)).cell? ⟨w.heap.size + 1 + 1 + 1, 0, none⟩ = some (.bool false) := World.cell?_setCell_same' _ _ _ (by rw [e3]; rfl)
    exact ⟨.bool false, by simp [results, Try.f86, go_sem, hr], rfl, below_set (below_tail hbq hB1) (by dsimp only; omega) _⟩
  · have x1 : ((i : Int) == (j : Int)) = false := by simp; omega
    have x2 : ((ni : Int) == (j : Int)) = true := by rw [hd]; simp
    have HC := Lib.hid hc
    have HD := Lib.hid hd
    clear hc hd
    refine (callsIn_wide (n := 9)).1 ?_
    refine callsIn_of_wp_marks Try.func86 rfl trivial ?_ rfl
    simp only [Try.ntmps86, List.size_toArray, List.length_cons, List.length_nil, Nat.reduceAdd, Nat.reduceSub, Array.replicate_succ, Array.replicate_zero, List.push_toArray, List.append_toArray, List.nil_append, List.cons_append]
    gi_wp2
    obtain ⟨W1, hW1⟩ : ∃ W1, ((((w.alloc (.cells #[.slice sa l.length cap] 22)).alloc (.cells #[.int .i64 i] 3)).alloc (.cells #[.int .i64 j] 3)).alloc (.cells #[.bool false] 4)) = W1 := ⟨_, rfl⟩
    rw [hW1]
    have hB1 : Below w.heap.size w W1 := by rw [← hW1]; (repeat' (first | exact Below.refl _ _ | assumption | refine below_new ?_ _ | refine below_draw ?_ | refine below_tail (by assumption) ?_ | refine below_set ?_ (by first | omega | (simp <;> omega)) _))
    have e1 : W1.cell? ⟨w.heap.size + 1, 0, none⟩ = some (.int .i64 i) := by rw [← hW1]; simp [go_sem]
    have e2 : W1.cell? ⟨w.heap.size + 1 + 1, 0, none⟩ = some (.int .i64 j) := by rw [← hW1]; simp [go_sem]
    have e3 : W1.cell? ⟨w.heap.size + 1 + 1 + 1, 0, none⟩ = some (.bool false) := by rw [← hW1]; simp [go_sem]
    have e4 : W1.frozen? ⟨w.heap.size + 1 + 1 + 1, 0, none⟩ = false := by rw [← hW1]; simp [go_sem]
    clear hW1
    have q1 := fun dr os => cell_regrown e1 dr os
    have q2 := fun dr os => cell_regrown e2 dr os
    refine wpIn_wide.2 (region_q mixed (by kernel_rfl) ?_)
    repeat (go_big_quiet_step (fail))
    refine wpQuiet_nil ?_
    intro wq hbq
    replace e4 := (hbq.frozen (p := ⟨w.heap.size + 1 + 1 + 1, 0, none⟩) (block_lt_of_cell e3)).trans e4
    replace e3 := (hbq.cell (p := ⟨w.heap.size + 1 + 1 + 1, 0, none⟩) (block_lt_of_cell e3)).trans e3
    clear q1 q2
    gi_wp2
    have hr : (wq.setCell ⟨w.heap.size + 1 + 1 + 1, 0, none⟩ (.bool false)).cell? ⟨w.heap.size + 1 + 1 + 1, 0, none⟩ = some (.bool false) := World.cell?_setCell_same' _ _ _ (by rw [e3]; rfl)
    exact ⟨.bool false, by simp [results, Try.f86, go_sem, hr], rfl, below_set (below_tail hbq hB1) (by dsimp only; omega) _⟩
  · have x1 : ((i : Int) == (j : Int)) = false := by simp; omega
    have x2 : ((ni : Int) == (j : Int)) = false := by simp; omega
    have x3 : ((nj : Int) == (i : Int)) = true := by rw [he]; simp
    have HC := Lib.hid hc
    have HD := Lib.hid hd
    have HE := Lib.hid he
    clear hc hd he
    refine (callsIn_wide (n := 9)).1 ?_
    refine callsIn_of_wp_marks Try.func86 rfl trivial ?_ rfl
    simp only [Try.ntmps86, List.size_toArray, List.length_cons, List.length_nil, Nat.reduceAdd, Nat.reduceSub, Array.replicate_succ, Array.replicate_zero, List.push_toArray, List.append_toArray, List.nil_append, List.cons_append]
    gi_wp2
    obtain ⟨W1, hW1⟩ : ∃ W1, ((((w.alloc (.cells #[.slice sa l.length cap] 22)).alloc (.cells #[.int .i64 i] 3)).alloc (.cells #[.int .i64 j] 3)).alloc (.cells #[.bool false] 4)) = W1 := ⟨_, rfl⟩
    rw [hW1]
    have hB1 : Below w.heap.size w W1 := by rw [← hW1]; (repeat' (first | exact Below.refl _ _ | assumption | refine below_new ?_ _ | refine below_draw ?_ | refine below_tail (by assumption) ?_ | refine below_set ?_ (by first | omega | (simp <;> omega)) _))
    have e1 : W1.cell? ⟨w.heap.size + 1, 0, none⟩ = some (.int .i64 i) := by rw [← hW1]; simp [go_sem]
    have e2 : W1.cell? ⟨w.heap.size + 1 + 1, 0, none⟩ = some (.int .i64 j) := by rw [← hW1]; simp [go_sem]
    have e3 : W1.cell? ⟨w.heap.size + 1 + 1 + 1, 0, none⟩ = some (.bool false) := by rw [← hW1]; simp [go_sem]
    have e4 : W1.frozen? ⟨w.heap.size + 1 + 1 + 1, 0, none⟩ = false := by rw [← hW1]; simp [go_sem]
    clear hW1
    have q1 := fun dr os => cell_regrown e1 dr os
    have q2 := fun dr os => cell_regrown e2 dr os
    refine wpIn_wide.2 (region_q mixed (by kernel_rfl) ?_)
    repeat (go_big_quiet_step (fail))
    refine wpQuiet_nil ?_
    intro wq hbq
    replace e4 := (hbq.frozen (p := ⟨w.heap.size + 1 + 1 + 1, 0, none⟩) (block_lt_of_cell e3)).trans e4
    replace e3 := (hbq.cell (p := ⟨w.heap.size + 1 + 1 + 1, 0, none⟩) (block_lt_of_cell e3)).trans e3
    clear q1 q2
    gi_wp2
    have hr : (wq.setCell ⟨w.heap.size + 1 + 1 + 1, 0, none⟩ (.bool false)).cell? ⟨w.heap.size + 1 + 1 + 1, 0, none⟩ = some (.bool false) := World.cell?_setCell_same' _ _ _ (by rw [e3]; rfl)
    exact ⟨.bool false, by simp [results, Try.f86, go_sem, hr], rfl, below_set (below_tail hbq hB1) (by dsimp only; omega) _⟩
/-- The error of a plot and the numbers of two corners. -/
def numF (l : List (Int × Int)) (i j : Int) : Int := if validF l = 0 then (if 0 ≤ i ∧ i < l.length ∧ 0 ≤ j ∧ j < l.length then 0 else 4) else validF l
theorem numF_ok {l : List (Int × Int)} {i j : Int} (h : numF l i j = 0) : validF l = 0 ∧ 0 ≤ i ∧ i < l.length ∧ 0 ≤ j ∧ j < l.length := by
  unfold numF at h
  split at h
  · rename_i h1
    split at h
    · rename_i h2; exact ⟨h1, h2⟩
    · cases h
  · rename_i h1; exact absurd h h1
end Go.Proofs.Ythiemglckmociaa
