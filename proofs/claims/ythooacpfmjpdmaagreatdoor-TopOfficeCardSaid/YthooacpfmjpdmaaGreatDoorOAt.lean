/- An office in memory. Conditions: as said. -/
import Derived.Test.YthooacpfmjpdmaaGreatDoorOLocks
import Derived.Test.YthooacpfmjpdmaaGreatDoorOMin3
import Derived.Test.YthooacpfmjpdmaaGreatDoorODoB
namespace Go.Proofs.YthooacpfmjpdmaaGreatDoor
open Go.RowKit Go.MuLone

/-- The cells of an office; lk: the lock's state. -/
def offC (lk : Int) (n : Nat) (x : Off) (fv sv : Value) (g1 c1 g2 c2 g3 c3 : Nat) (ov : Value) : Array Value :=
  #[.int .i32 lk, .int .u32 0, .int .i64 x.c.first, fv, sv, .int .i64 x.s.day, .slice (some ⟨g1, 0, none⟩) n c1, .slice (some ⟨g2, 0, none⟩) n c2, .int .i64 x.s.part, .bool x.s.fixed, .int .i64 x.s.stop, .bool x.s.heard, .slice (some ⟨g3, 0, none⟩) n c3, .bool x.s.ent, ov, .string (minF x.os)]
/-- An office at block B, all of it from block m on. -/
structure OffAt (m : Nat) (w : World) (B n : Nat) (x : Off) (fv sv : Value) (g1 c1 g2 c2 g3 c3 : Nat) (ov : Value) : Prop where
  box : w.heap[B]? = some (.cells (offC 0 n x fv sv g1 c1 g2 c2 g3 c3 ov) 99 (0, 0))
  st : StAt m w n x.s g1 c1 g2 c2 g3 c3
  fr : w.ownsRow m 3 1 fv x.c.free.length (cells1 x.c.free)
  sp : w.ownsRow m 66 2 sv x.c.still.length (cells2 x.c.still)
  od : w.ownsRow m 9 1 ov x.os.length (cellsS x.os)
  mB : m ≤ B
/-- The same, with its rows wherever they lie. -/
def OffIn (m : Nat) (w : World) (B n : Nat) (x : Off) (ov : Value) : Prop := ∃ fv sv g1 c1 g2 c2 g3 c3, OffAt m w B n x fv sv g1 c1 g2 c2 g3 c3 ov
theorem OffAt.lt {m : Nat} {w : World} {B n : Nat} {x : Off} {fv sv ov : Value} {g1 c1 g2 c2 g3 c3 : Nat} (h : OffAt m w B n x fv sv g1 c1 g2 c2 g3 c3 ov) : B < w.heap.size := (Array.getElem?_eq_some_iff.1 h.box).1
theorem StAt.same {m : Nat} {w w' : World} {n : Nat} {s : St} {g1 c1 g2 c2 g3 c3 : Nat} (h : StAt m w n s g1 c1 g2 c2 g3 c3) (e1 : w'.heap[g1]? = w.heap[g1]?) (e2 : w'.heap[g2]? = w.heap[g2]?) (e3 : w'.heap[g3]? = w.heap[g3]?) : StAt m w' n s g1 c1 g2 c2 g3 c3 :=
  { h with r1 := h.r1.same e1, r2 := h.r2.same e2, r3 := h.r3.same e3 }
theorem own_same {w w' : World} {base e size n : Nat} {v : Value} {xs : List Value} (h : w.ownsRow base e size v n xs) (hw : ∀ b, v.ownBlock = some b → w'.heap[b]? = w.heap[b]?) : w'.ownsRow base e size v n xs := by
  refine ⟨h.1, ?_⟩
  rcases h.2 with ⟨hv, hn⟩ | ⟨g, cap, cur, hv, hg, hh, r⟩
  · exact .inl ⟨hv, hn⟩
  · refine .inr ⟨g, cap, cur, hv, hg, (hw g ?_).trans hh, r⟩
    rw [hv]; rfl
theorem OffAt.same {m : Nat} {w w' : World} {B n : Nat} {x : Off} {fv sv ov : Value} {g1 c1 g2 c2 g3 c3 : Nat} (h : OffAt m w B n x fv sv g1 c1 g2 c2 g3 c3 ov) (hw : ∀ b, b < w.heap.size → w'.heap[b]? = w.heap[b]?) : OffAt m w' B n x fv sv g1 c1 g2 c2 g3 c3 ov :=
  { box := (hw B h.lt).trans h.box
    st := h.st.same (hw _ h.st.r1.lt) (hw _ h.st.r2.lt) (hw _ h.st.r3.lt)
    fr := own_same h.fr (fun b hb => hw b (h.fr.lt b hb).2)
    sp := own_same h.sp (fun b hb => hw b (h.sp.lt b hb).2)
    od := own_same h.od (fun b hb => hw b (h.od.lt b hb).2)
    mB := h.mB }
theorem OffIn.below {m : Nat} {w w' : World} {B n : Nat} {x : Off} {ov : Value} (h : OffIn m w B n x ov) (hb : Below w.heap.size w w') : OffIn m w' B n x ov := by
  obtain ⟨fv, sv, g1, c1, g2, c2, g3, c3, h⟩ := h
  exact ⟨fv, sv, g1, c1, g2, c2, g3, c3, h.same (fun b hb' => hb.block b hb')⟩
theorem RowAt.ty {w : World} {g : Nat} {e : TypeId} {cap : Nat} {xs : List Value} (h : RowAt w g e cap xs) : ∃ cs, w.heap[g]? = some (.cells cs e (0, 0)) := by
  obtain ⟨_, _, cur, hg, _⟩ := h
  exact ⟨cur, hg⟩
theorem ty_ne {w : World} {a b : Nat} {s t : TypeId} {cs ds : Array Value} {f g : Nat × Nat} (h1 : w.heap[a]? = some (.cells cs s f)) (h2 : w.heap[b]? = some (.cells ds t g)) (hst : s ≠ t) : a ≠ b := by
  rintro rfl
  rw [h1] at h2
  injection h2 with h2
  injection h2 with _ h2
  exact hst h2
theorem OffAt.e1 {m : Nat} {w : World} {B n : Nat} {x : Off} {fv sv ov : Value} {g1 c1 g2 c2 g3 c3 : Nat} (h : OffAt m w B n x fv sv g1 c1 g2 c2 g3 c3 ov) : g1 ≠ B := by obtain ⟨cs, hc⟩ := h.st.r1.ty; exact ty_ne hc h.box (by decide)
theorem OffAt.e2 {m : Nat} {w : World} {B n : Nat} {x : Off} {fv sv ov : Value} {g1 c1 g2 c2 g3 c3 : Nat} (h : OffAt m w B n x fv sv g1 c1 g2 c2 g3 c3 ov) : g2 ≠ B := by obtain ⟨cs, hc⟩ := h.st.r2.ty; exact ty_ne hc h.box (by decide)
theorem OffAt.e3 {m : Nat} {w : World} {B n : Nat} {x : Off} {fv sv ov : Value} {g1 c1 g2 c2 g3 c3 : Nat} (h : OffAt m w B n x fv sv g1 c1 g2 c2 g3 c3 ov) : g3 ≠ B := by obtain ⟨cs, hc⟩ := h.st.r3.ty; exact ty_ne hc h.box (by decide)
theorem OffAt.cal {m : Nat} {w : World} {B n : Nat} {x : Off} {fv sv ov : Value} {g1 c1 g2 c2 g3 c3 : Nat} (h : OffAt m w B n x fv sv g1 c1 g2 c2 g3 c3 ov) : CalAt w (.agg #[.int .i64 x.c.first, fv, sv]) x.c := ⟨fv, sv, rfl, own_ints h.fr, own_pairs h.sp⟩
/-- A lock taken and given back: the block is what it was. -/
theorem relock {w : World} {B : Nat} {cs : Array Value} {t : TypeId} {v u : Value} (h : w.heap[B]? = some (.cells cs t (0, 0))) (h0 : cs[0]? = some v) (w' : World) (hw : w'.heap[B]? = some (.cells (cs.setIfInBounds 0 u) t (0, 0))) : (w'.setCell ⟨B, 0, none⟩ v).heap[B]? = w.heap[B]? := by
  rw [block_set hw 0 v, h]
  congr 2
  apply Array.ext_getElem?
  intro j
  rw [Array.getElem?_setIfInBounds]
  split
  · rename_i e; subst e
    rw [Array.size_setIfInBounds]
    split
    · exact h0.symm
    · rename_i hs
      rw [Array.getElem?_eq_none (by omega)]
  · rw [Array.getElem?_setIfInBounds]
    rename_i hne
    rw [if_neg hne]
/-- A box that is filled. -/
theorem fill9 {w : World} {b : Nat} {t : TypeId} {z0 z1 z2 z3 z4 z5 z6 z7 z8 v0 v1 v2 v3 v4 v5 v6 v7 v8 : Value} (h : w.heap[b]? = some (.cells #[z0, z1, z2, z3, z4, z5, z6, z7, z8] t (0, 0))) :
    (((((((((w.setCell ⟨b, 0, none⟩ v0).setCell ⟨b, 1, none⟩ v1).setCell ⟨b, 2, none⟩ v2).setCell ⟨b, 3, none⟩ v3).setCell ⟨b, 4, none⟩ v4).setCell ⟨b, 5, none⟩ v5).setCell ⟨b, 6, none⟩ v6).setCell ⟨b, 7, none⟩ v7).setCell ⟨b, 8, none⟩ v8).heap[b]? = some (.cells #[v0, v1, v2, v3, v4, v5, v6, v7, v8] t (0, 0)) :=
  (block_set (block_set (block_set (block_set (block_set (block_set (block_set (block_set (block_set h 0 v0) 1 v1) 2 v2) 3 v3) 4 v4) 5 v5) 6 v6) 7 v7) 8 v8).trans (by simp)
end Go.Proofs.YthooacpfmjpdmaaGreatDoor
