/- A firm that came in, opened. Conditions: it reads as data. -/
import Derived.Test.YthooacpfmjpdmaaGreatDoorOOpen
import Derived.Test.YthooacpfmjpdmaaGreatDoorODone
import Derived.Deep.Strs
namespace Go.Proofs.YthooacpfmjpdmaaGreatDoor
open Go.ChangeShapes Go.WideShapes Go.ChangeAt Go.RowKit Go.Joins Go.Deep
set_option maxRecDepth 100000 in
theorem open_firm {H : Type} {enc : TypeId × Value → H} {w : World} {base : Nat} {spare : Nat → Bool} {held : Bool} {r : Reach} {b0 : Nat} {v : Value} {d : DataW H} {p : List MemPlace}
    (hv : Value.okWide Tryz.prog w r b0 27 v) (h : DataW.Trod enc Tryz.prog w base spare held 27 v d p) : ∃ k c, FirmAt w v k c := by
  obtain ⟨cs, rfl, hsz⟩ := okWide_struct Tryz.underlying27 hv
  obtain ⟨c0, c1, c2, c3, rfl⟩ := array4 (hsz.trans (by kernel_rfl))
  obtain ⟨fuel, hf⟩ := h
  obtain ⟨y0, y1, n, _, _, h0, h1⟩ := trod_struct2 Tryz.underlying27 hf
  have h0' : DataW.trod enc Tryz.prog w base spare held n 3 [c0] = some y0 := h0
  have h1' : DataW.trod enc Tryz.prog w base spare held n 25 [c1, c2, c3] = some y1 := h1
  obtain ⟨k, e0, _, _⟩ := DataW.trod_int Tryz.underlying3 h0'
  simp only [List.cons.injEq, and_true] at e0
  subst e0
  obtain ⟨z0, z1, z2, m, _, _, g0, g1, g2⟩ := trod_struct3 Tryz.underlying25 h1'
  have g0' : DataW.trod enc Tryz.prog w base spare held m 3 [c1] = some z0 := g0
  have g1' : DataW.trod enc Tryz.prog w base spare held m 22 [c2] = some z1 := g1
  have g2' : DataW.trod enc Tryz.prog w base spare held m 23 [c3] = some z2 := g2
  obtain ⟨a, e1, _, _⟩ := DataW.trod_int Tryz.underlying3 g0'
  simp only [List.cons.injEq, and_true] at e1
  subst e1
  obtain ⟨l, hl⟩ := ints_cells Tryz.underlying22 Tryz.underlying3 (by kernel_rfl) g1'
  obtain ⟨s, hs⟩ := pairs_cells Tryz.underlying23 Tryz.underlying66 (by kernel_rfl) rfl rfl (by kernel_rfl) (by kernel_rfl) Tryz.underlying3 Tryz.underlying3 g2'
  exact ⟨k, ⟨a, l, s⟩, c2, c3, rfl, _, _, rfl, hl, hs⟩
end Go.Proofs.YthooacpfmjpdmaaGreatDoor
