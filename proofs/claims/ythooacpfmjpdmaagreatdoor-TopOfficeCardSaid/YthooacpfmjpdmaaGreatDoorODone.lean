/- What the laws begin with: firms, long lists, the office that has done some texts. Conditions: as said. -/
import Derived.Test.YthooacpfmjpdmaaGreatDoorOKnown
namespace Go.Proofs.YthooacpfmjpdmaaGreatDoor
open Go.RowKit

/-- What an office is made with, in memory. -/
def FirmAt (w : World) (v : Value) (k : Int) (c : Cal) : Prop := ∃ fv sv, v = .agg #[.int .i64 k, .int .i64 c.first, fv, sv] ∧ CalAt w (.agg #[.int .i64 c.first, fv, sv]) c
theorem FirmAt.below {w w' : World} {v : Value} {k : Int} {c : Cal} (h : FirmAt w v k c) (hb : Below w.heap.size w w') : FirmAt w' v k c := by
  obtain ⟨fv, sv, e, hc⟩ := h
  exact ⟨fv, sv, e, hc.below hb⟩
theorem FirmAt.open {w : World} {v : Value} {k : Int} {c : Cal} (h : FirmAt w v k c) :
    ∃ fa fc sa sc, v = .agg #[.int .i64 k, .int .i64 c.first, .slice fa c.free.length fc, .slice sa c.still.length sc] ∧ CalAt w (.agg #[.int .i64 c.first, .slice fa c.free.length fc, .slice sa c.still.length sc]) c := by
  obtain ⟨fv, sv, rfl, hc⟩ := h
  obtain ⟨fa, fc, sa, sc, e, -⟩ := hc.cells
  simp only [Value.agg.injEq, Array.mk.injEq, List.cons.injEq, and_true, true_and] at e
  obtain ⟨rfl, rfl⟩ := e
  exact ⟨fa, fc, sa, sc, rfl, hc⟩
/-- Some texts, one by one. -/
def manyO (x : Off) (l : List ByteArray) : Off := l.foldl stepO x
theorem manyO_snoc (x : Off) (l : List ByteArray) (o : ByteArray) : manyO x (l ++ [o]) = stepO (manyO x l) o := by unfold manyO; rw [List.foldl_append]; rfl
end Go.Proofs.YthooacpfmjpdmaaGreatDoor
