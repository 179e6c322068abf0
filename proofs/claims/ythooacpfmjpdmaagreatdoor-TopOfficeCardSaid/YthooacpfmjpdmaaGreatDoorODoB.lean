/- What the method do leaves: the state's box behind a store; several errors in memory. Conditions: as said. -/
import Derived.Test.YthooacpfmjpdmaaGreatDoorODoS
import Derived.Deep.RegionHeld3
import Derived.Shelf.RegionOpenPlain
namespace Go.Proofs.YthooacpfmjpdmaaGreatDoor
open Go.RowKit
/-- What do returns, and what it leaves. -/
def DoR (m : Nat) (w : World) (B n g1 c1 g2 c2 g3 c3 : Nat) (err : Int) (s' : St) (e : Ending) (w' : World) : Prop :=
  e = .returned (errV err) ∧ Below m w w' ∧ (err = 0 → StBox m w' B n s' g1 c1 g2 c2 g3 c3)
theorem ErrsAt.below {w w' : World} {v : Value} {L : List Int} (h : ErrsAt w v L) (hb : Below w.heap.size w w') : ErrsAt w' v L := by
  obtain ⟨a, cap, hv, h1, h2, h3⟩ := h
  refine ⟨a, cap, hv, h1, h2, fun i hi => ?_⟩
  obtain ⟨b, o, e, hlt, hc⟩ := h3 i hi
  exact ⟨b, o, e, Nat.lt_of_lt_of_le hlt hb.size, (hb.cell (p := ⟨b, o + i, none⟩) hlt).trans hc⟩
theorem errs2 {w : World} {x0 x1 : Int} {t : TypeId} {n : Nat} (hn : n = w.heap.size) : ErrsAt (w.alloc (.cells #[errV x0, errV x1] t)) (.slice (some ⟨n, 0, none⟩) 2 2) [x0, x1] := by
  subst hn
  refine ⟨_, 2, rfl, by simp, by decide, fun i hi => ⟨w.heap.size, 0, rfl, by simp, ?_⟩⟩
  have hi' : i < 2 := hi
  rcases (show i = 0 ∨ i = 1 by omega) with rfl | rfl <;> simp [gi]
theorem errs2d {w : World} {x0 x1 : Int} {t : TypeId} {n : Nat} (hn : n = w.heap.size) : ErrsAt (w.alloc (.cells #[errV x0, errV x1] t)).drew (.slice (some ⟨n, 0, none⟩) 2 2) [x0, x1] := (errs2 hn).below (by (repeat' (first | exact Below.refl _ _ | assumption | refine below_new ?_ _ | refine below_draw ?_ | refine below_tail (by assumption) ?_ | refine below_set ?_ (by first | omega | (simp <;> omega)) _)))
theorem errs3 {w : World} {x0 x1 x2 : Int} {t : TypeId} {n : Nat} (hn : n = w.heap.size) : ErrsAt (w.alloc (.cells #[errV x0, errV x1, errV x2] t)) (.slice (some ⟨n, 0, none⟩) 3 3) [x0, x1, x2] := by
  subst hn
  refine ⟨_, 3, rfl, by simp, by decide, fun i hi => ⟨w.heap.size, 0, rfl, by simp, ?_⟩⟩
  have hi' : i < 3 := hi
  rcases (show i = 0 ∨ i = 1 ∨ i = 2 by omega) with rfl | rfl | rfl <;> simp [gi]
theorem errs3d {w : World} {x0 x1 x2 : Int} {t : TypeId} {n : Nat} (hn : n = w.heap.size) : ErrsAt (w.alloc (.cells #[errV x0, errV x1, errV x2] t)).drew (.slice (some ⟨n, 0, none⟩) 3 3) [x0, x1, x2] := (errs3 hn).below (by (repeat' (first | exact Below.refl _ _ | assumption | refine below_new ?_ _ | refine below_draw ?_ | refine below_tail (by assumption) ?_ | refine below_set ?_ (by first | omega | (simp <;> omega)) _)))
theorem errs4 {w : World} {x0 x1 x2 x3 : Int} {t : TypeId} {n : Nat} (hn : n = w.heap.size) : ErrsAt (w.alloc (.cells #[errV x0, errV x1, errV x2, errV x3] t)) (.slice (some ⟨n, 0, none⟩) 4 4) [x0, x1, x2, x3] := by
  subst hn
  refine ⟨_, 4, rfl, by simp, by decide, fun i hi => ⟨w.heap.size, 0, rfl, by simp, ?_⟩⟩
  have hi' : i < 4 := hi
  rcases (show i = 0 ∨ i = 1 ∨ i = 2 ∨ i = 3 by omega) with rfl | rfl | rfl | rfl <;> simp [gi]
theorem cells_errV (e : Int) : Value.cells (errV e) = #[errV e] := by unfold errV; split <;> rfl
theorem StBox.keep {m : Nat} {w w' : World} {B n : Nat} {s : St} {g1 c1 g2 c2 g3 c3 : Nat} (h : StBox m w B n s g1 c1 g2 c2 g3 c3) (hb : Below w.heap.size w w') : StBox m w' B n s g1 c1 g2 c2 g3 c3 :=
  { h with box := (hb.block B (Array.getElem?_eq_some_iff.1 h.box).1).trans h.box, st := h.st.below hb }
theorem StBox.cell {m : Nat} {w : World} {B n : Nat} {s s' : St} {g1 c1 g2 c2 g3 c3 : Nat} (h : StBox m w B n s g1 c1 g2 c2 g3 c3) {i : Nat} {v : Value} (hc : (stC n s g1 c1 g2 c2 g3 c3).setIfInBounds i v = stC n s' g1 c1 g2 c2 g3 c3) (k1 : s'.strips = s.strips) (k2 : s'.laid = s.laid) (k3 : s'.opn = s.opn) : StBox m (w.setCell ⟨B, i, none⟩ v) B n s' g1 c1 g2 c2 g3 c3 :=
  { box := by rw [← hc]; exact block_set h.box i v
    st := { r1 := by rw [k1]; exact h.st.r1.other h.e1 v
            r2 := by rw [k2]; exact h.st.r2.other h.e2 v
            r3 := by rw [k3]; exact h.st.r3.other h.e3 v
            l1 := by rw [k1]; exact h.st.l1
            l2 := by rw [k2]; exact h.st.l2
            l3 := by rw [k3]; exact h.st.l3
            n1 := h.st.n1, n8 := h.st.n8, m1 := h.st.m1, m2 := h.st.m2, m3 := h.st.m3, d12 := h.st.d12, d13 := h.st.d13, d23 := h.st.d23 }
    mB := h.mB, e1 := h.e1, e2 := h.e2, e3 := h.e3 }
theorem StBox.row1 {m : Nat} {w : World} {B n : Nat} {s s' : St} {g1 c1 g2 c2 g3 c3 : Nat} (h : StBox m w B n s g1 c1 g2 c2 g3 c3) {i : Nat} {x : Int} (hc : stC n s g1 c1 g2 c2 g3 c3 = stC n s' g1 c1 g2 c2 g3 c3) (k1 : s'.strips = s.strips.set i x) (k2 : s'.laid = s.laid) (k3 : s'.opn = s.opn) : StBox m (w.setCell ⟨g1, i, none⟩ (.int .i64 x)) B n s' g1 c1 g2 c2 g3 c3 :=
  { box := by rw [← hc]; exact (Below.heap_setCell _ _ _ _ (Ne.symm h.e1)).trans h.box
    st := { r1 := by rw [k1]; exact h.st.r1.set _ (cells1_set _ _ _)
            r2 := by rw [k2]; exact h.st.r2.other (Ne.symm h.st.d12) _
            r3 := by rw [k3]; exact h.st.r3.other (Ne.symm h.st.d13) _
            l1 := by rw [k1, List.length_set]; exact h.st.l1
            l2 := by rw [k2]; exact h.st.l2
            l3 := by rw [k3]; exact h.st.l3
            n1 := h.st.n1, n8 := h.st.n8, m1 := h.st.m1, m2 := h.st.m2, m3 := h.st.m3, d12 := h.st.d12, d13 := h.st.d13, d23 := h.st.d23 }
    mB := h.mB, e1 := h.e1, e2 := h.e2, e3 := h.e3 }
theorem StBox.row2 {m : Nat} {w : World} {B n : Nat} {s s' : St} {g1 c1 g2 c2 g3 c3 : Nat} (h : StBox m w B n s g1 c1 g2 c2 g3 c3) {i : Nat} {x : Int} (hc : stC n s g1 c1 g2 c2 g3 c3 = stC n s' g1 c1 g2 c2 g3 c3) (k1 : s'.strips = s.strips) (k2 : s'.laid = s.laid.set i x) (k3 : s'.opn = s.opn) : StBox m (w.setCell ⟨g2, i, none⟩ (.int .i64 x)) B n s' g1 c1 g2 c2 g3 c3 :=
  { box := by rw [← hc]; exact (Below.heap_setCell _ _ _ _ (Ne.symm h.e2)).trans h.box
    st := { r1 := by rw [k1]; exact h.st.r1.other h.st.d12 _
            r2 := by rw [k2]; exact h.st.r2.set _ (cells1_set _ _ _)
            r3 := by rw [k3]; exact h.st.r3.other (Ne.symm h.st.d23) _
            l1 := by rw [k1]; exact h.st.l1
            l2 := by rw [k2, List.length_set]; exact h.st.l2
            l3 := by rw [k3]; exact h.st.l3
            n1 := h.st.n1, n8 := h.st.n8, m1 := h.st.m1, m2 := h.st.m2, m3 := h.st.m3, d12 := h.st.d12, d13 := h.st.d13, d23 := h.st.d23 }
    mB := h.mB, e1 := h.e1, e2 := h.e2, e3 := h.e3 }
theorem StBox.row3 {m : Nat} {w : World} {B n : Nat} {s s' : St} {g1 c1 g2 c2 g3 c3 : Nat} (h : StBox m w B n s g1 c1 g2 c2 g3 c3) {i : Nat} {x : Bool} (hc : stC n s g1 c1 g2 c2 g3 c3 = stC n s' g1 c1 g2 c2 g3 c3) (k1 : s'.strips = s.strips) (k2 : s'.laid = s.laid) (k3 : s'.opn = s.opn.set i x) : StBox m (w.setCell ⟨g3, i, none⟩ (.bool x)) B n s' g1 c1 g2 c2 g3 c3 :=
  { box := by rw [← hc]; exact (Below.heap_setCell _ _ _ _ (Ne.symm h.e3)).trans h.box
    st := { r1 := by rw [k1]; exact h.st.r1.other h.st.d13 _
            r2 := by rw [k2]; exact h.st.r2.other h.st.d23 _
            r3 := by rw [k3]; exact h.st.r3.set _ (cellsB_set _ _ _)
            l1 := by rw [k1]; exact h.st.l1
            l2 := by rw [k2]; exact h.st.l2
            l3 := by rw [k3, List.length_set]; exact h.st.l3
            n1 := h.st.n1, n8 := h.st.n8, m1 := h.st.m1, m2 := h.st.m2, m3 := h.st.m3, d12 := h.st.d12, d13 := h.st.d13, d23 := h.st.d23 }
    mB := h.mB, e1 := h.e1, e2 := h.e2, e3 := h.e3 }
/-- The state behind some steps of do. -/
structure Done (m : Nat) (w w' : World) (B n : Nat) (s : St) (g1 c1 g2 c2 g3 c3 : Nat) : Prop where
  bel : Below m w w'
  box : StBox m w' B n s g1 c1 g2 c2 g3 c3
theorem Done.fin {m : Nat} {w w' : World} {B n : Nat} {s : St} {e : Int} {g1 c1 g2 c2 g3 c3 : Nat} (he : e = 0) (h : Done m w w' B n s g1 c1 g2 c2 g3 c3) : DoR m w B n g1 c1 g2 c2 g3 c3 e s (.returned .nilIface) w' := ⟨by rw [he]; rfl, h.bel, fun _ => h.box⟩
theorem Done.below {m : Nat} {w w1 w' : World} {B n : Nat} {s : St} {g1 c1 g2 c2 g3 c3 : Nat} (h : Done m w w1 B n s g1 c1 g2 c2 g3 c3) (hb : Below w1.heap.size w1 w') : Done m w w' B n s g1 c1 g2 c2 g3 c3 :=
  ⟨h.bel.trans (hb.mono (Nat.le_trans h.box.mB (Nat.le_of_lt (Array.getElem?_eq_some_iff.1 h.box.box).1))), h.box.keep hb⟩
theorem Done.cell {m : Nat} {w w1 : World} {B n : Nat} {s s' : St} {g1 c1 g2 c2 g3 c3 : Nat} (h : Done m w w1 B n s g1 c1 g2 c2 g3 c3) {i : Nat} {v : Value} (hc : (stC n s g1 c1 g2 c2 g3 c3).setIfInBounds i v = stC n s' g1 c1 g2 c2 g3 c3) (k1 : s'.strips = s.strips) (k2 : s'.laid = s.laid) (k3 : s'.opn = s.opn) : Done m w (w1.setCell ⟨B, i, none⟩ v) B n s' g1 c1 g2 c2 g3 c3 :=
  ⟨h.bel.setCell h.box.mB _, h.box.cell hc k1 k2 k3⟩
theorem Done.row1 {m : Nat} {w w1 : World} {B n : Nat} {s s' : St} {g1 c1 g2 c2 g3 c3 : Nat} (h : Done m w w1 B n s g1 c1 g2 c2 g3 c3) {i : Nat} {x : Int} (hc : stC n s g1 c1 g2 c2 g3 c3 = stC n s' g1 c1 g2 c2 g3 c3) (k1 : s'.strips = s.strips.set i x) (k2 : s'.laid = s.laid) (k3 : s'.opn = s.opn) : Done m w (w1.setCell ⟨g1, i, none⟩ (.int .i64 x)) B n s' g1 c1 g2 c2 g3 c3 :=
  ⟨h.bel.setCell h.box.st.m1 _, h.box.row1 hc k1 k2 k3⟩
theorem Done.row2 {m : Nat} {w w1 : World} {B n : Nat} {s s' : St} {g1 c1 g2 c2 g3 c3 : Nat} (h : Done m w w1 B n s g1 c1 g2 c2 g3 c3) {i : Nat} {x : Int} (hc : stC n s g1 c1 g2 c2 g3 c3 = stC n s' g1 c1 g2 c2 g3 c3) (k1 : s'.strips = s.strips) (k2 : s'.laid = s.laid.set i x) (k3 : s'.opn = s.opn) : Done m w (w1.setCell ⟨g2, i, none⟩ (.int .i64 x)) B n s' g1 c1 g2 c2 g3 c3 :=
  ⟨h.bel.setCell h.box.st.m2 _, h.box.row2 hc k1 k2 k3⟩
theorem Done.row3 {m : Nat} {w w1 : World} {B n : Nat} {s s' : St} {g1 c1 g2 c2 g3 c3 : Nat} (h : Done m w w1 B n s g1 c1 g2 c2 g3 c3) {i : Nat} {x : Bool} (hc : stC n s g1 c1 g2 c2 g3 c3 = stC n s' g1 c1 g2 c2 g3 c3) (k1 : s'.strips = s.strips) (k2 : s'.laid = s.laid) (k3 : s'.opn = s.opn.set i x) : Done m w (w1.setCell ⟨g3, i, none⟩ (.bool x)) B n s' g1 c1 g2 c2 g3 c3 :=
  ⟨h.bel.setCell h.box.st.m3 _, h.box.row3 hc k1 k2 k3⟩
theorem gi_mem {l : List Int} {d : Int} {i : Nat} (h : i < l.length) : gi l d i ∈ l := by simp [gi, h]
theorem StAt.c1 {m : Nat} {w : World} {n : Nat} {s : St} {g1 c1 g2 c2 g3 c3 : Nat} (h : StAt m w n s g1 c1 g2 c2 g3 c3) {i : Nat} (hi : i < n) : w.cell? ⟨g1, i, none⟩ = some (.int .i64 (gi s.strips 0 i)) := h.r1.get (cells1_get (by rw [h.l1]; exact hi))
theorem StAt.c2 {m : Nat} {w : World} {n : Nat} {s : St} {g1 c1 g2 c2 g3 c3 : Nat} (h : StAt m w n s g1 c1 g2 c2 g3 c3) {i : Nat} (hi : i < n) : w.cell? ⟨g2, i, none⟩ = some (.int .i64 (gi s.laid 0 i)) := h.r2.get (cells1_get (by rw [h.l2]; exact hi))
theorem StAt.c3 {m : Nat} {w : World} {n : Nat} {s : St} {g1 c1 g2 c2 g3 c3 : Nat} (h : StAt m w n s g1 c1 g2 c2 g3 c3) {i : Nat} (hi : i < n) : w.cell? ⟨g3, i, none⟩ = some (.bool (gi s.opn false i)) := h.r3.get (cellsB_get (by rw [h.l3]; exact hi))
theorem sumI_nonneg {l : List Int} (h : ∀ x ∈ l, 0 ≤ x) : 0 ≤ sumI l := by
  induction l with
  | nil => simp [sumI]
  | cons x l ih => have := h x (List.mem_cons_self ..); have := ih (fun y hy => h y (List.mem_cons_of_mem _ hy)); simp only [sumI]; omega
theorem mem_le_sum {l : List Int} (h : ∀ x ∈ l, 0 ≤ x) {x : Int} (hx : x ∈ l) : x ≤ sumI l := by
  induction l with
  | nil => cases hx
  | cons y l ih =>
    have h0 := sumI_nonneg (fun z hz => h z (List.mem_cons_of_mem _ hz))
    simp only [sumI]
    rcases List.mem_cons.1 hx with rfl | hx
    · omega
    · have := ih (fun z hz => h z (List.mem_cons_of_mem _ hz)) hx
      have := h y (List.mem_cons_self ..)
      omega
theorem sumI_le {l : List Int} (h : ∀ x ∈ l, x ≤ 1000) : sumI l ≤ 1000 * (l.length : Int) := by
  induction l with
  | nil => simp [sumI]
  | cons x l ih => have := h x (List.mem_cons_self ..); have := ih (fun y hy => h y (List.mem_cons_of_mem _ hy)); simp only [sumI, List.length_cons]; omega
theorem Good.clm_sum {s : St} {n : Nat} {m : Nat} {w : World} {g1 c1 g2 c2 g3 c3 : Nat} (h : Good s) (hs : StAt m w n s g1 c1 g2 c2 g3 c3) : sumI (clmF s) ≤ 8000 ∧ ∀ x ∈ clmF s, 0 ≤ x ∧ x ≤ 1000 := by
  unfold clmF
  split
  · have hc := claimsB_iff.1 (dedF_claims (h.claims hs) h.part0 h.part1)
    have h1 := sumI_le (fun x hx => (hc.2 x hx).2)
    have h2 := hc.1.2
    exact ⟨by omega, hc.2⟩
  · exact ⟨by simp [sumI], fun x hx => by cases hx⟩
theorem Good.laid_few {s : St} {n : Nat} {m : Nat} {w : World} {g1 c1 g2 c2 g3 c3 : Nat} (h : Good s) (hs : StAt m w n s g1 c1 g2 c2 g3 c3) : Few s.laid ∧ ∀ x ∈ s.laid, x ≤ 10000 := by
  have h1 := (h.clm_sum hs).1
  have h2 := h.sum
  have h3 : ∀ x ∈ s.laid, x ≤ 10000 := fun x hx => by have := mem_le_sum h.laid0 hx; omega
  exact ⟨⟨by rw [hs.l2]; have := hs.n8; omega, fun x hx => ⟨by have := h.laid0 x hx; omega, by have := h3 x hx; omega⟩⟩, h3⟩
theorem Good.clm_few {s : St} {n : Nat} {m : Nat} {w : World} {g1 c1 g2 c2 g3 c3 : Nat} (h : Good s) (hs : StAt m w n s g1 c1 g2 c2 g3 c3) : Few (clmF s) := by
  unfold clmF
  split
  · exact claims_few (dedF_claims (h.claims hs) h.part0 h.part1)
  · exact ⟨by simp, fun x hx => by cases hx⟩
end Go.Proofs.YthooacpfmjpdmaaGreatDoor
