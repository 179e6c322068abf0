/- Arguments opened: from how a value reads as data to what a walk reads of it. Conditions: the value reads. -/
import Derived.Test.YthiemglckmociaaProg
import Derived.Test.YthiemglckmociaaKit
import Derived.ProofKit
import Derived.OpenShut
import Derived.ShutString
import Derived.ChangeOld
import Derived.Below
import Derived.Lib.SmallJoins
import Derived.Deep.SlicePairs
namespace Go.Proofs.Ythiemglckmociaa
open Go.ChangeShapes Go.WideShapes Go.ChangeAt Go.RowKit Go.Joins Go.Deep
section
variable {H : Type} {enc : TypeId × Value → H} {P : Program} {w : World} {base : Nat} {spare : Nat → Bool} {held : Bool}

theorem pairs_cells {t e : TypeId} {f0 f1 : Field} {fuel : Nat} {v : Value} {x : DataW H × List MemPlace} (ht : P.underlying t = some (.slice e)) (he : P.underlying e = some (.struct #[f0, f1]))
    (ce : P.cellsOf e = 2) (o0 : f0.offset = 0) (o1 : f1.offset = 1) (c0 : P.cellsOf f0.type = 1) (c1 : P.cellsOf f1.type = 1) (i0 : P.underlying f0.type = some (.int .i64)) (i1 : P.underlying f1.type = some (.int .i64))
    (h : DataW.trod enc P w base spare held fuel t [v] = some x) : ∃ l, PairsAt w v l := by
  rcases open_slice_pairs ht he ce o0 o1 c0 c1 h with ⟨hcs, _⟩ | ⟨a, len, cap, m, n, V0, V1, D0, D1, P0, P1, hcs, _, hl, hm, hmm, _, hcell⟩
  · simp only [List.cons.injEq, and_true] at hcs
    subst hcs
    exact ⟨[], none, 0, rfl, by simp, by decide, fun i hi => absurd hi (by simp)⟩
  · simp only [List.cons.injEq, and_true] at hcs
    subst hcs
    have hlm : len ≤ m := by rw [hmm]; split <;> omega
    obtain ⟨q, hq⟩ := choose_lt (α := Int × Int) (n := len) (p := fun i p => V0 i = .int .i64 p.1 ∧ V1 i = .int .i64 p.2) (fun i hi => by
      obtain ⟨_, _, g0, g1⟩ := hcell i (by omega)
      obtain ⟨n0, e0, _, _⟩ := DataW.trod_int i0 g0
      obtain ⟨n1, e1, _, _⟩ := DataW.trod_int i1 g1
      simp only [List.cons.injEq, and_true] at e0 e1
      exact ⟨(n0, n1), e0, e1⟩)
    have hlen : ((List.range len).map q).length = len := by simp
    refine ⟨(List.range len).map q, some a, cap, by rw [hlen], by omega, by unfold maxLen at hm; omega, fun i hi => ?_⟩
    rw [hlen] at hi
    obtain ⟨k0, k1, _, _⟩ := hcell i (by omega)
    obtain ⟨b, o, sp⟩ := a
    have hsp : sp = none := by
      have h0 := World.cell?_spot (hcell 0 (by omega)).1
      simpa [Addr.add] using h0
    subst hsp
    rw [add_plain] at k0 k1
    obtain ⟨q0, q1⟩ := hq i hi
    have hg : gi ((List.range len).map q) (0, 0) i = q i := by simp [gi, hi]
    refine ⟨b, o, rfl, block_lt_of_cell k0, ?_, ?_⟩
    · rw [k0, hg, q0]
    · rw [hg, ← q1, ← k1, Nat.add_assoc]

end
end Go.Proofs.Ythiemglckmociaa
