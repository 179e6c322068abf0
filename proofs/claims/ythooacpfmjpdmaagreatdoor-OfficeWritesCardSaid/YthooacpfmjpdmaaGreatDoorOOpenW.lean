/- Texts that came in, opened, with how long each may be. Conditions: the value reads as data. -/
import Derived.Test.YthooacpfmjpdmaaGreatDoorOOpen
namespace Go.Proofs.YthooacpfmjpdmaaGreatDoor
open Go.ChangeShapes Go.WideShapes Go.ChangeAt Go.RowKit Go.Joins Go.Deep
section
variable {H : Type} {enc : TypeId × Value → H} {P : Program} {w : World} {base : Nat} {spare : Nat → Bool} {held : Bool}
theorem texts_sized {t e : TypeId} {fuel : Nat} {v : Value} {x : DataW H × List MemPlace} (ht : P.underlying t = some (.slice e)) (he : P.underlying e = some .string) (hc : P.cellsOf e = 1)
    (h : DataW.trod enc P w base spare held fuel t [v] = some x) : ∃ l, TextsAt w v l ∧ ∀ o ∈ l, o.size ≤ 9223372036854775807 := by
  rcases open_strings ht he hc h with ⟨hcs, _⟩ | ⟨a, len, cap, ss, hcs, _, hl, hm, hz, _, hcell, hsz⟩
  · simp only [List.cons.injEq, and_true] at hcs
    subst hcs
    exact ⟨[], texts0 w none 0 (by decide), by simp⟩
  · simp only [List.cons.injEq, and_true] at hcs
    subst hcs
    have hzl : len ≤ ss.length := by rw [hz]; split <;> omega
    have hlen : (ss.take len).length = len := by simp; omega
    refine ⟨ss.take len, ⟨some a, cap, by rw [hlen], by omega, by unfold maxLen at hm; omega, fun i hi => ?_⟩, fun o ho => by have := hsz o (List.mem_of_mem_take ho); unfold maxLen at this; omega⟩
    rw [hlen] at hi
    have hcl := hcell i (by omega)
    obtain ⟨b, o, sp⟩ := a
    have hsp : sp = none := by
      have h0 := World.cell?_spot (hcell 0 (by omega))
      simpa [Addr.add] using h0
    subst hsp
    rw [add_plain] at hcl
    refine ⟨b, o, rfl, block_lt_of_cell hcl, ?_⟩
    rw [hcl]
    have hi2 : i < ss.length := by omega
    simp [gi, hi, hi2, List.getD]
end
end Go.Proofs.YthooacpfmjpdmaaGreatDoor
