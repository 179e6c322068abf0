/- A village that came in, opened. Conditions: it reads as data. -/
import Derived.Test.YthooacpfmjpdmaaGreatDoorOOpen
import Derived.Test.YthooacpfmjpdmaaGreatDoorOTopOA
import Derived.Lib.SmallJoins
import Derived.Deep.Strs
namespace Go.Proofs.YthooacpfmjpdmaaGreatDoor
open Go.ChangeShapes Go.WideShapes Go.ChangeAt Go.RowKit Go.Joins Go.Deep
theorem array_six {α : Type} {cs : Array α} (h : cs.size = 6) : ∃ c0 c1 c2 c3 c4 c5, cs = #[c0, c1, c2, c3, c4, c5] := by
  obtain ⟨l⟩ := cs
  match l, h with
  | [c0, c1, c2, c3, c4, c5], _ => exact ⟨c0, c1, c2, c3, c4, c5, rfl⟩
set_option maxRecDepth 100000 in
theorem open_village {H : Type} {enc : TypeId × Value → H} {w : World} {base : Nat} {spare : Nat → Bool} {held : Bool} {r : Reach} {b0 : Nat} {v : Value} {d : DataW H} {p : List MemPlace}
    (hv : Value.okWide Tryz.prog w r b0 70 v) (h : DataW.Trod enc Tryz.prog w base spare held 70 v d p) : ∃ k c l pr, VillageAt w v k c l pr := by
  obtain ⟨cs, rfl, hsz⟩ := okWide_struct Tryz.underlying70 hv
  obtain ⟨c0, c1, c2, c3, c4, c5, rfl⟩ := array_six (hsz.trans (by kernel_rfl))
  obtain ⟨fuel, hf⟩ := h
  obtain ⟨y0, y1, y2, y3, n, _, _, h0, h1, h2, h3⟩ := trod_struct4 Tryz.underlying70 hf
  have h0' : DataW.trod enc Tryz.prog w base spare held n 3 [c0] = some y0 := h0
  have h1' : DataW.trod enc Tryz.prog w base spare held n 25 [c1, c2, c3] = some y1 := h1
  have h2' : DataW.trod enc Tryz.prog w base spare held n 28 [c4] = some y2 := h2
  have h3' : DataW.trod enc Tryz.prog w base spare held n 3 [c5] = some y3 := h3
  obtain ⟨k, e0, _, _⟩ := DataW.trod_int Tryz.underlying3 h0'
  simp only [List.cons.injEq, and_true] at e0
  subst e0
  obtain ⟨pr, e5, _, _⟩ := DataW.trod_int Tryz.underlying3 h3'
  simp only [List.cons.injEq, and_true] at e5
  subst e5
  obtain ⟨ls, hls⟩ := texts_cells Tryz.underlying28 Tryz.underlying9 (by kernel_rfl) h2'
  obtain ⟨z0, z1, z2, m, _, _, g0, g1, g2⟩ := trod_struct3 Tryz.underlying25 h1'
  have g0' : DataW.trod enc Tryz.prog w base spare held m 3 [c1] = some z0 := g0
  have g1' : DataW.trod enc Tryz.prog w base spare held m 22 [c2] = some z1 := g1
  have g2' : DataW.trod enc Tryz.prog w base spare held m 23 [c3] = some z2 := g2
  obtain ⟨a, e1, _, _⟩ := DataW.trod_int Tryz.underlying3 g0'
  simp only [List.cons.injEq, and_true] at e1
  subst e1
  obtain ⟨l, hl⟩ := ints_cells Tryz.underlying22 Tryz.underlying3 (by kernel_rfl) g1'
  obtain ⟨s, hs⟩ := pairs_cells Tryz.underlying23 Tryz.underlying66 (by kernel_rfl) rfl rfl (by kernel_rfl) (by kernel_rfl) Tryz.underlying3 Tryz.underlying3 g2'
  exact ⟨k, ⟨a, l, s⟩, ls, pr, c2, c3, c4, rfl, ⟨_, _, rfl, hl, hs⟩, hls⟩
end Go.Proofs.YthooacpfmjpdmaaGreatDoor
