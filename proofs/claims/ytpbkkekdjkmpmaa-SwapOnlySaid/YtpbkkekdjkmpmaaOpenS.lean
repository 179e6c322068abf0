/- A row of rows of numbers opened; two closed facts of the program. Conditions: the value reads. -/
import Derived.Test.YtpbkkekdjkmpmaaOpen
import Derived.Test.YtpbkkekdjkmpmaaSwLow
import Derived.Deep.Slices
namespace Go.Proofs.Ytpbkkekdjkmpmaa
open Go.ChangeShapes Go.WideShapes Go.ChangeAt Go.RowKit Go.Joins Go.Deep
theorem own : ownKnob Try.prog.godebug = none := by kernel_rfl
theorem laidOut : laidOutB Try.prog = true := by kernel_rfl
section
variable {H : Type} {enc : TypeId × Value → H} {P : Program} {w : World} {base : Nat} {spare : Nat → Bool} {held : Bool}
theorem tab_cells {t e : TypeId} {k : TypeId} {fuel : Nat} {v : Value} {x : DataW H × List MemPlace} (ht : P.underlying t = some (.slice e)) (he : P.underlying e = some (.slice k)) (hk : P.underlying k = some (.int .i64)) (hc : P.cellsOf e = 1) (hc2 : P.cellsOf k = 1)
    (h : DataW.trod enc P w base spare held fuel t [v] = some x) : ∃ L, TableAt w v L := by
  rcases open_slice1 ht hc h with ⟨hcs, _⟩ | ⟨a, len, cap, m, n, V, D, Pl, hcs, _, hl, hm, hmm, _, hcell⟩
  · simp only [List.cons.injEq, and_true] at hcs
    subst hcs
    exact ⟨[], none, 0, rfl, by simp, by decide, fun i hi => absurd hi (by simp)⟩
  · simp only [List.cons.injEq, and_true] at hcs
    subst hcs
    have hlm : len ≤ m := by rw [hmm]; split <;> omega
    obtain ⟨q, hq⟩ := choose_lt (α := List Int) (n := len) (p := fun i l => IntsAt w (V i) l) (fun i hi => by
      obtain ⟨_, g⟩ := hcell i (by omega)
      exact ints_cells he hk hc2 g)
    have hlen : ((List.range len).map q).length = len := by simp
    refine ⟨(List.range len).map q, some a, cap, by rw [hlen], by omega, by unfold maxLen at hm; omega, fun i hi => ?_⟩
    rw [hlen] at hi
    obtain ⟨k0, _⟩ := hcell i (by omega)
    obtain ⟨b, o, sp⟩ := a
    have hsp : sp = none := by
      have h0 := World.cell?_spot (hcell 0 (by omega)).1
      simpa [Addr.add] using h0
    subst hsp
    rw [add_plain] at k0
    exact ⟨b, o, V i, rfl, block_lt_of_cell k0, k0, by rw [show gi ((List.range len).map q) [] i = q i by simp [gi, hi]]; exact hq i hi⟩
end
end Go.Proofs.Ytpbkkekdjkmpmaa
