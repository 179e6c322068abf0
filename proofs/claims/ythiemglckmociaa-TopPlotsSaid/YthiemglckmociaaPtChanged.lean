/- What changing all corners of a plot gives. Conditions: the list lies in memory as said; the change of a single point is known. -/
import Derived.Test.YthiemglckmociaaPtLowA
import Derived.Test.YthiemglckmociaaPtKnown
import Derived.Test.YthiemglckmociaaKit
namespace Go.Proofs.Ythiemglckmociaa
open Go.RowKit

/-- The call gives a list of points of its own and an error. -/
def GivesPts (P : Program) (f : FuncId) (args : Array Value) (w : World) (l : List (Int × Int)) (err : Int) : Prop :=
  Calls P f args w fun e w' => ∃ v, e = .returned (.tuple #[v, .int .i64 err]) ∧ w'.ownsRow w.heap.size 32 2 v l.length (cells2 l) ∧ Below w.heap.size w w'
theorem GivesPts.use {P : Program} {f : FuncId} {args : Array Value} {w : World} {l : List (Int × Int)} {err : Int} {R : Ending → World → Prop} (h : GivesPts P f args w l err)
    (k : ∀ a cap w1, Below w.heap.size w w1 → w.heap.size ≤ w1.heap.size → (∀ b o, b < w.heap.size → w1.cell? ⟨b, o, none⟩ = w.cell? ⟨b, o, none⟩) →
      (∀ b o, b < w.heap.size → w1.frozen? ⟨b, o, none⟩ = w.frozen? ⟨b, o, none⟩) → Hid (w1.ownsRow w.heap.size 32 2 (.slice a l.length cap) l.length (cells2 l)) → R (.returned (.tuple #[.slice a l.length cap, .int .i64 err])) w1) : Calls P f args w R :=
  h.mono fun _ w1 ⟨v, he, hi, hb⟩ => by
    obtain ⟨a, cap, rfl⟩ := own_slice hi
    exact he ▸ k a cap w1 hb hb.size (fun b o h => hb.cell (p := ⟨b, o, none⟩) h) (fun b o h => hb.frozen (p := ⟨b, o, none⟩) h) hi
theorem infoPoint : (Try.prog.info? 32).map (fun i => (i.zero, i.size, i.bytes)) = some (some (.agg #[.int .i64 0, .int .i64 0]), 2, 16) := by kernel_rfl
theorem own_more2 {w : World} {base e : Nat} {v : Value} {l : List (Int × Int)} {x : Int × Int} {n : Nat} (h : w.ownsRow base e 2 v n (cells2 l ++ cells2 [x])) (hn : n = l.length + 1) : w.ownsRow base e 2 v (l ++ [x]).length (cells2 (l ++ [x])) := by
  rw [cells2_append, List.length_append, List.length_singleton, ← hn]; exact h
theorem own_below {w w' : World} {base e size n : Nat} {v : Value} {xs : List Value} (h : w.ownsRow base e size v n xs) (hb : Below w.heap.size w w') : w'.ownsRow base e size v n xs := by
  obtain ⟨hl, h | ⟨g, cap, cur, hv, hg, hh, hr⟩⟩ := h
  · exact ⟨hl, .inl h⟩
  · refine ⟨hl, .inr ⟨g, cap, cur, hv, hg, ?_, hr⟩⟩
    rw [hb.block g (Array.getElem?_eq_some_iff.1 hh).1]; exact hh
theorem own_block_le2 {w : World} {base e size n : Nat} {v : Value} {xs : List Value} (h : w.ownsRow base e size v n xs) : ∀ k, v.ownBlock = some k → base ≤ k := fun k hk => (h.lt k hk).1
/-- The one point that is appended lies in a block of its own. -/
theorem app_src2 (w : World) (x : Int × Int) (t : TypeId) : ∀ j u, (cells2 [x])[j]? = some u → (w.alloc (.cells #[.int .i64 x.1, .int .i64 x.2] t)).cell? ((⟨w.heap.size, 0, none⟩ : Addr).add j) = some u := by
  intro j u hj
  match j, hj with
  | 0, hj => simp [cells2] at hj; subst hj; simp [Addr.add]
  | 1, hj => simp [cells2] at hj; subst hj; simp [Addr.add]
end Go.Proofs.Ythiemglckmociaa
