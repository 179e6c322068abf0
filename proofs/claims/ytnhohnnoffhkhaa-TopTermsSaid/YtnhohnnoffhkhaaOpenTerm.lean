/- A calendar that came in, opened. Conditions: it reads as data. -/
import Derived.Test.YtnhohnnoffhkhaaOpen
import Derived.Test.YtnhohnnoffhkhaaTermSpec
namespace Go.Proofs.Ytnhohnnoffhkhaa
open Go.ChangeShapes Go.WideShapes Go.ChangeAt Go.RowKit Go.Joins Go.Deep

theorem own : ownKnob Try.prog.godebug = none := by kernel_rfl
theorem laidOut : laidOutB Try.prog = true := by kernel_rfl

set_option maxRecDepth 100000 in
theorem open_cal {H : Type} {enc : TypeId × Value → H} {w : World} {base : Nat} {spare : Nat → Bool} {held : Bool} {r : Reach} {b0 : Nat} {v : Value} {d : DataW H} {p : List MemPlace}
    (hv : Value.okWide Try.prog w r b0 25 v) (h : DataW.Trod enc Try.prog w base spare held 25 v d p) : ∃ c : Cal, CalAt w v c := by
  obtain ⟨c0, c1, c2, y0, y1, y2, m, rfl, rfl, rfl, hy0, hy1, hy2⟩ := open_agg3 Try.underlying25 (by kernel_rfl) (by kernel_rfl) hv h
  obtain ⟨a, e0, _, wa⟩ := DataW.trod_int Try.underlying3 hy0
  simp only [List.cons.injEq, and_true] at e0
  subst e0
  obtain ⟨l, hl⟩ := ints_cells Try.underlying22 Try.underlying3 (by kernel_rfl) hy1
  obtain ⟨s, hs⟩ := pairs_cells Try.underlying23 Try.underlying50 (by kernel_rfl) rfl rfl (by kernel_rfl) (by kernel_rfl) Try.underlying3 Try.underlying3 hy2
  exact ⟨⟨a, l, s⟩, _, _, rfl, hl, hs⟩
end Go.Proofs.Ytnhohnnoffhkhaa
