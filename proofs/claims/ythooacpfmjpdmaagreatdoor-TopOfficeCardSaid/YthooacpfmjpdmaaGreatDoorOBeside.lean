/- An office and a row of texts beside it: what each call keeps of the other. Conditions: as said. -/
import Derived.Test.YthooacpfmjpdmaaGreatDoorOTell
namespace Go.Proofs.YthooacpfmjpdmaaGreatDoor
open Go.RowKit
/-- An office (its orders at ov) and a row of texts that lies in no block of the office. -/
structure Beside (m base : Nat) (w : World) (B n : Nat) (x : Off) (ov v : Value) (l : List ByteArray) : Prop where
  off : OffIn m w B n x ov
  made : Made n x
  row : w.ownsRow base 9 1 v l.length (cellsS l)
  nB : v.ownBlock ≠ some B
  nO : ∀ b, v.ownBlock = some b → ov.ownBlock ≠ some b
theorem own_lt {w : World} {base e size n : Nat} {v : Value} {xs : List Value} {b : Nat} (h : w.ownsRow base e size v n xs) (hb : v.ownBlock = some b) : b < w.heap.size := by
  obtain ⟨cs, hc⟩ := own_ty h hb
  exact (Array.getElem?_eq_some_iff.1 hc).1
/-- An order leaves the row as it lies. -/
theorem Beside.step {m base : Nat} {w : World} {B n : Nat} {x : Off} {ov v : Value} {l : List ByteArray} (o : ByteArray) (h : Beside m base w B n x ov v l) (hm : 9 ≤ m) (he : Base w) :
    Calls Tryz.prog 21 #[.pointer (some ⟨B, 0, none⟩), .string o] w fun e w' => e = .returned (.int .i64 (stepE x o)) ∧ (∃ ov', Beside m base w' B n (stepO x o) ov' v l) ∧ Below m w w' := by
  refine (Do_calls m w B n x ov o h.off h.made hm he.env).mono fun e w' hd => ?_
  obtain ⟨he1, hon, ov', ho', hnew⟩ := id hd
  refine ⟨he1, ⟨ov', { off := ho', made := h.made.step o, row := own_same h.row (fun b hb => hon.block b (own_lt h.row hb) (fun e => h.nB (e ▸ hb)) (h.nO b hb)), nB := h.nB, nO := fun b hb e => ?_ }⟩, DoO.below h.off hd⟩
  rcases hnew b e with h1 | h1
  · exact h.nO b hb h1
  · have := own_lt h.row hb; omega
/-- What changes the row alone, or lays new blocks, leaves the office. -/
theorem OffIn.grown {m base size n0 : Nat} {w w' : World} {B n : Nat} {x : Off} {ov v : Value} {xs : List Value} (h : OffIn m w B n x ov) (hr : w.ownsRow base 9 size v n0 xs) (hB : v.ownBlock ≠ some B) (hO : ∀ b, v.ownBlock = some b → ov.ownBlock ≠ some b) (hg : w.grownBy w' v.ownBlock) : OffIn m w' B n x ov := by
  obtain ⟨fv, sv, g1, c1, g2, c2, g3, c3, hat⟩ := h
  have same : ∀ b, b < w.heap.size → v.ownBlock ≠ some b → w'.heap[b]? = w.heap[b]? := fun b hb hn => hg.block b hb hn.symm
  have other : ∀ {b : Nat} {cs : Array Value} {t : TypeId} {f : Nat × Nat}, w.heap[b]? = some (.cells cs t f) → t ≠ 9 → w'.heap[b]? = w.heap[b]? := by
    intro b cs t f hb ht
    refine same b (Array.getElem?_eq_some_iff.1 hb).1 (fun e => ?_)
    obtain ⟨ds, hd⟩ := own_ty hr e
    exact ty_ne hb hd ht rfl
  obtain ⟨q1, hq1⟩ := hat.st.r1.ty
  obtain ⟨q2, hq2⟩ := hat.st.r2.ty
  obtain ⟨q3, hq3⟩ := hat.st.r3.ty
  refine ⟨fv, sv, g1, c1, g2, c2, g3, c3, { box := (same B hat.lt hB).trans hat.box, st := hat.st.same (other hq1 (by decide)) (other hq2 (by decide)) (other hq3 (by decide)), fr := own_same hat.fr (fun b hb => ?_), sp := own_same hat.sp (fun b hb => ?_), od := own_same hat.od (fun b hb => ?_), mB := hat.mB }⟩
  · obtain ⟨ds, hd⟩ := own_ty hat.fr hb
    exact other hd (by decide)
  · obtain ⟨ds, hd⟩ := own_ty hat.sp hb
    exact other hd (by decide)
  · exact same b (own_lt hat.od hb) (fun e => hO b e hb)
/-- One more text in the row. -/
theorem Beside.more {m base : Nat} {w w' : World} {B n : Nat} {x : Off} {ov v v' : Value} {l : List ByteArray} (o : ByteArray) (h : Beside m base w B n x ov v l) (hb : B < base) (hrow : w'.ownsRow base 9 1 v' (l ++ [o]).length (cellsS (l ++ [o]))) (hg : w.grownBy w' v.ownBlock) (hnew : ∀ b, v'.ownBlock = some b → v.ownBlock = some b ∨ w.heap.size ≤ b) : Beside m base w' B n x ov v' (l ++ [o]) := by
  refine { off := h.off.grown h.row h.nB h.nO hg, made := h.made, row := hrow, nB := fun e => ?_, nO := fun b hb1 e => ?_ }
  · have := (hrow.lt B e).1; omega
  · rcases hnew b hb1 with h1 | h1
    · exact h.nO b h1 e
    · obtain ⟨fv, sv, g1, c1, g2, c2, g3, c3, hat⟩ := h.off
      have := own_lt hat.od e
      omega
theorem Beside.grow {m base : Nat} {w w' : World} {B n j : Nat} {x : Off} {ov v v' : Value} {l l2 : List ByteArray} {q : ByteArray} {z : Obj} (h : Beside m base w B n x ov v l) (hb : B < base) (hrow : w'.ownsRow base 9 1 v' (j + 1) (cellsS l ++ [.string q])) (hg : (w.alloc z).grownBy w' v.ownBlock) (hat : v'.ownBlock = v.ownBlock ∨ v'.ownBlock = some (w.alloc z).heap.size) (e : l2 = l ++ [q]) (hl : l.length = j) : Beside m base w' B n x ov v' l2 := by
  subst e hl
  have h0 : Beside m base (w.alloc z) B n x ov v l := ⟨h.off.below ((Below.refl _ _).alloc (Nat.le_refl _) z), h.made, own_below h.row ((Below.refl _ _).alloc (Nat.le_refl _) z), h.nB, h.nO⟩
  refine h0.more q hb (by rw [List.length_append, cellsS_append]; exact hrow) hg (fun b hb1 => ?_)
  rcases hat with h1 | h1
  · exact .inl (h1 ▸ hb1)
  · right; rw [h1] at hb1; injection hb1 with hb1; omega
theorem Beside.toS {m base : Nat} {w : World} {B n : Nat} {x : Off} {ov v : Value} {l : List ByteArray} (h : Beside m base w B n x ov v l) : OffS m w B n x := ⟨⟨ov, h.off⟩, h.made⟩
theorem Beside.below {m base : Nat} {w w' : World} {B n : Nat} {x : Off} {ov v : Value} {l : List ByteArray} (h : Beside m base w B n x ov v l) (hb : Below w.heap.size w w') : Beside m base w' B n x ov v l := ⟨h.off.below hb, h.made, own_below h.row hb, h.nB, h.nO⟩
theorem TextsAt.first {w : World} {a : Option Addr} {n cap : Nat} {l : List ByteArray} {M : Nat} (h : TextsAt w (.slice a n cap) l) (hM : M ≤ l.length) : TextsAt w (.slice a M M) (l.take M) := by
  obtain ⟨a', cap', e, h1, h2, h3⟩ := h
  simp only [Value.slice.injEq] at e
  obtain ⟨rfl, rfl, rfl⟩ := e
  have hl : (l.take M).length = M := by rw [List.length_take]; omega
  refine ⟨a, M, by rw [hl], by omega, by omega, fun i hi => ?_⟩
  rw [hl] at hi
  obtain ⟨b, o, e1, e2, e3⟩ := h3 i (by omega)
  refine ⟨b, o, e1, e2, e3.trans ?_⟩
  rw [gi_lt (by omega), gi_lt (by rw [hl]; exact hi), List.getElem_take]
end Go.Proofs.YthooacpfmjpdmaaGreatDoor
