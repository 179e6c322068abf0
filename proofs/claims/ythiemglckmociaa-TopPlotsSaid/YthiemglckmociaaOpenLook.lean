/- The argument Look, opened. Conditions: it reads as data. -/
import Derived.Test.YthiemglckmociaaOpenP
namespace Go.Proofs.Ythiemglckmociaa
open Go.ChangeShapes Go.WideShapes Go.ChangeAt Go.RowKit Go.Joins Go.Deep
set_option maxRecDepth 100000 in
theorem open_look {H : Type} {enc : TypeId × Value → H} {w : World} {base : Nat} {spare : Nat → Bool} {held : Bool} {r : Reach} {b0 : Nat} {v : Value} {d : DataW H} {p : List MemPlace}
    (hv : Value.okWide Try.prog w r b0 40 v) (h : DataW.Trod enc Try.prog w base spare held 40 v d p) : ∃ i j x y : Int, v = .agg #[.int .i64 i, .int .i64 j, .int .i64 x, .int .i64 y] := by
  obtain ⟨cs, rfl, hsz⟩ := okWide_struct Try.underlying40 hv
  obtain ⟨c0, c1, c2, c3, rfl⟩ := array4 (hsz.trans (by kernel_rfl))
  obtain ⟨fuel, hf⟩ := h
  obtain ⟨y0, y1, y2, n, _, _, h0, h1, h2⟩ := trod_struct3 Try.underlying40 hf
  have h0' : DataW.trod enc Try.prog w base spare held n 3 [c0] = some y0 := h0
  have h1' : DataW.trod enc Try.prog w base spare held n 3 [c1] = some y1 := h1
  have h2' : DataW.trod enc Try.prog w base spare held n 32 [c2, c3] = some y2 := h2
  obtain ⟨i, e0, _, _⟩ := DataW.trod_int Try.underlying3 h0'
  obtain ⟨j, e1, _, _⟩ := DataW.trod_int Try.underlying3 h1'
  simp only [List.cons.injEq, and_true] at e0 e1
  subst e0 e1
  obtain ⟨z0, z1, m, _, _, g0, g1⟩ := trod_struct2 Try.underlying32 h2'
  have g0' : DataW.trod enc Try.prog w base spare held m 3 [c2] = some z0 := g0
  have g1' : DataW.trod enc Try.prog w base spare held m 3 [c3] = some z1 := g1
  obtain ⟨x, e2, _, _⟩ := DataW.trod_int Try.underlying3 g0'
  obtain ⟨y, e3, _, _⟩ := DataW.trod_int Try.underlying3 g1'
  simp only [List.cons.injEq, and_true] at e2 e3
  subst e2 e3
  exact ⟨i, j, x, y, rfl⟩
end Go.Proofs.Ythiemglckmociaa
