/- Arguments opened: from how a value reads as data to what a walk reads of it; what every world of these laws holds. Conditions: the value reads. -/
import Derived.Test.YthooacpfmjpdmaaGreatDoorOLaid
import Derived.Test.YthooacpfmjpdmaaGreatDoorOKnown
import Derived.Test.YthooacpfmjpdmaaGreatDoorOpen
import Derived.ChangeMaps5
import Derived.SliceStrings
namespace Go.Proofs.YthooacpfmjpdmaaGreatDoor
open Go.ChangeShapes Go.WideShapes Go.ChangeAt Go.RowKit Go.Joins Go.Deep
theorem base_of_laid {W : World} (h : laidMetH Tryz.prog laid8 W) (hsh : W.ShapedOpen Tryz.prog) : Base W := by
  refine ⟨env_of_laid h hsh, ?_⟩
  obtain ⟨m, hm⟩ := (env_of_laid h hsh).ml
  have h8 := (laidMetH_iff.1 h).1
  rw [laid_plain] at h8
  obtain ⟨ps, ⟨g0, t0, cs0, f0, p0, q0, hg0, ht0, hv0, _⟩, _⟩ := h8.tail.tail.tail
  obtain rfl := Option.some.inj ((show Tryz.prog.globalNamed "unicode/utf8.acceptRanges" = some 8 by kernel_rfl).symm.trans hg0)
  unfold World.var? at hv0
  rw [hg0] at hv0
  simp only [Option.bind_some] at hv0
  rcases Nat.lt_or_ge 8 W.heap.size with h1 | h1
  · exact h1
  · rw [Array.getElem?_eq_none h1] at hv0; simp at hv0
section
variable {H : Type} {enc : TypeId × Value → H} {P : Program} {w : World} {base : Nat} {spare : Nat → Bool} {held : Bool}
theorem texts_cells {t e : TypeId} {fuel : Nat} {v : Value} {x : DataW H × List MemPlace} (ht : P.underlying t = some (.slice e)) (he : P.underlying e = some .string) (hc : P.cellsOf e = 1)
    (h : DataW.trod enc P w base spare held fuel t [v] = some x) : ∃ l, TextsAt w v l := by
  rcases open_strings ht he hc h with ⟨hcs, _⟩ | ⟨a, len, cap, ss, hcs, _, hl, hm, hz, _, hcell, _⟩
  · simp only [List.cons.injEq, and_true] at hcs
    subst hcs
    exact ⟨[], texts0 w none 0 (by decide)⟩
  · simp only [List.cons.injEq, and_true] at hcs
    subst hcs
    have hzl : len ≤ ss.length := by rw [hz]; split <;> omega
    have hlen : (ss.take len).length = len := by simp; omega
    refine ⟨ss.take len, some a, cap, by rw [hlen], by omega, by unfold maxLen at hm; omega, fun i hi => ?_⟩
    rw [hlen] at hi
    have hcl := hcell i (by omega)
    obtain ⟨b, o, sp⟩ := a
    have hsp : sp = none := by
      have h0 := World.cell?_spot (hcell 0 (by omega))
      simpa [Addr.add] using h0
    subst hsp
    rw [add_plain] at hcl
    refine ⟨b, o, rfl, block_lt_of_cell hcl, ?_⟩
    rw [hcl]
    have hi2 : i < ss.length := by omega
    simp [gi, hi, hi2, List.getD]
end
end Go.Proofs.YthooacpfmjpdmaaGreatDoor
