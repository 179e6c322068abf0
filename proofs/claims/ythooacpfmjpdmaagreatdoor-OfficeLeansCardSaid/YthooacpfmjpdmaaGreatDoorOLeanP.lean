/- What stores outside an office leave of it; rows of numbers that are written over. Conditions: as said. -/
import Derived.Test.YthooacpfmjpdmaaGreatDoorOTell
namespace Go.Proofs.YthooacpfmjpdmaaGreatDoor
open Go.RowKit
/-- The blocks from m on, before s, are as they were. -/
def Mid (m s : Nat) (w w' : World) : Prop := ∀ b, m ≤ b → b < s → w'.heap[b]? = w.heap[b]?
theorem Mid.refl (m s : Nat) (w : World) : Mid m s w w := fun _ _ _ => rfl
theorem Mid.set {m s : Nat} {w w' : World} (h : Mid m s w w') {p : Addr} (hp : p.block < m ∨ s ≤ p.block) (u : Value) : Mid m s w (w'.setCell p u) := fun b h1 h2 =>
  (Below.heap_setCell _ _ _ _ (by omega)).trans (h b h1 h2)
theorem Mid.below {m s : Nat} {w w' w'' : World} (h : Mid m s w w') (hb : Below w'.heap.size w' w'') (hs : s ≤ w'.heap.size) : Mid m s w w'' := fun b h1 h2 =>
  (hb.block b (by omega)).trans (h b h1 h2)
theorem OffS.mid {m : Nat} {w w' : World} {B n : Nat} {x : Off} (h : OffS m w B n x) (hm : Mid m w.heap.size w w') : OffS m w' B n x := by
  obtain ⟨⟨ov, fv, sv, g1, c1, g2, c2, g3, c3, h⟩, hk⟩ := h
  refine ⟨⟨ov, fv, sv, g1, c1, g2, c2, g3, c3, ?_⟩, hk⟩
  exact { box := (hm B h.mB h.lt).trans h.box
          st := h.st.same (hm _ h.st.m1 h.st.r1.lt) (hm _ h.st.m2 h.st.r2.lt) (hm _ h.st.m3 h.st.r3.lt)
          fr := own_same h.fr (fun b hb => hm b (h.fr.lt b hb).1 (h.fr.lt b hb).2)
          sp := own_same h.sp (fun b hb => hm b (h.sp.lt b hb).1 (h.sp.lt b hb).2)
          od := own_same h.od (fun b hb => hm b (h.od.lt b hb).1 (h.od.lt b hb).2)
          mB := h.mB }
/-- A row of n numbers that may be written, in a block before m or from s on. -/
def RowN (q m s : Nat) (w : World) (v : Value) (n : Nat) : Prop :=
  ∃ (a : Option Addr) (cap : Nat), v = .slice a n cap ∧ n ≤ cap ∧ cap ≤ 9223372036854775807 ∧
    ∀ i, i < n → ∃ b o, a = some ⟨b, o, none⟩ ∧ b < w.heap.size ∧ q ≤ b ∧ (b < m ∨ s ≤ b) ∧ (∃ y, w.cell? ⟨b, o + i, none⟩ = some (.int .i64 y)) ∧ w.frozen? ⟨b, o + i, none⟩ = false
/-- The same of pairs. -/
def RowN2 (q m s : Nat) (w : World) (v : Value) (n : Nat) : Prop :=
  ∃ (a : Option Addr) (cap : Nat), v = .slice a n cap ∧ n ≤ cap ∧ cap ≤ 9223372036854775807 ∧
    ∀ i, i < n → ∃ b o, a = some ⟨b, o, none⟩ ∧ b < w.heap.size ∧ q ≤ b ∧ (b < m ∨ s ≤ b) ∧ (∃ y, w.cell? ⟨b, o + i * 2 + 1, none⟩ = some (.int .i64 y)) ∧ w.frozen? ⟨b, o + i * 2 + 1, none⟩ = false
theorem set_int {w : World} {p a : Addr} {y : Int} (h : ∃ x, w.cell? a = some (.int .i64 x)) : ∃ x, (w.setCell p (.int .i64 y)).cell? a = some (.int .i64 x) := by
  obtain ⟨x, hx⟩ := h
  by_cases e : p = a
  · subst e
    exact ⟨y, World.cell?_setCell_same _ _ _ hx⟩
  · exact ⟨x, (World.cell?_setCell_other _ _ _ _ e).trans hx⟩
theorem RowN.set {q m s : Nat} {w : World} {v : Value} {n : Nat} (h : RowN q m s w v n) (p : Addr) (y : Int) : RowN q m s (w.setCell p (.int .i64 y)) v n := by
  obtain ⟨a, cap, e, h1, h2, h3⟩ := h
  refine ⟨a, cap, e, h1, h2, fun i hi => ?_⟩
  obtain ⟨b, o, e1, e2, e3, e4, e5, e6⟩ := h3 i hi
  exact ⟨b, o, e1, by simpa using e2, e3, e4, set_int e5, by simpa using e6⟩
theorem RowN2.set {q m s : Nat} {w : World} {v : Value} {n : Nat} (h : RowN2 q m s w v n) (p : Addr) (y : Int) : RowN2 q m s (w.setCell p (.int .i64 y)) v n := by
  obtain ⟨a, cap, e, h1, h2, h3⟩ := h
  refine ⟨a, cap, e, h1, h2, fun i hi => ?_⟩
  obtain ⟨b, o, e1, e2, e3, e4, e5, e6⟩ := h3 i hi
  exact ⟨b, o, e1, by simpa using e2, e3, e4, set_int e5, by simpa using e6⟩
theorem RowN.below {q m s : Nat} {w w' : World} {v : Value} {n : Nat} (h : RowN q m s w v n) (hb : Below w.heap.size w w') : RowN q m s w' v n := by
  obtain ⟨a, cap, e, h1, h2, h3⟩ := h
  refine ⟨a, cap, e, h1, h2, fun i hi => ?_⟩
  obtain ⟨b, o, e1, e2, e3, e4, ⟨y, e5⟩, e6⟩ := h3 i hi
  exact ⟨b, o, e1, by have := hb.size; omega, e3, e4, ⟨y, (hb.cell (p := ⟨b, o + i, none⟩) e2).trans e5⟩, (hb.frozen (p := ⟨b, o + i, none⟩) e2).trans e6⟩
theorem RowN2.below {q m s : Nat} {w w' : World} {v : Value} {n : Nat} (h : RowN2 q m s w v n) (hb : Below w.heap.size w w') : RowN2 q m s w' v n := by
  obtain ⟨a, cap, e, h1, h2, h3⟩ := h
  refine ⟨a, cap, e, h1, h2, fun i hi => ?_⟩
  obtain ⟨b, o, e1, e2, e3, e4, ⟨y, e5⟩, e6⟩ := h3 i hi
  exact ⟨b, o, e1, by have := hb.size; omega, e3, e4, ⟨y, (hb.cell (p := ⟨b, o + i * 2 + 1, none⟩) e2).trans e5⟩, (hb.frozen (p := ⟨b, o + i * 2 + 1, none⟩) e2).trans e6⟩
theorem RowN.moved {q m s m' s' : Nat} {w : World} {v : Value} {n : Nat} (h : RowN q m s w v n) (hm : ∀ b, b < w.heap.size → (b < m ∨ s ≤ b) → (b < m' ∨ s' ≤ b)) : RowN q m' s' w v n := by
  obtain ⟨a, cap, e, h1, h2, h3⟩ := h
  refine ⟨a, cap, e, h1, h2, fun i hi => ?_⟩
  obtain ⟨b, o, e1, e2, e3, e4, e5⟩ := h3 i hi
  exact ⟨b, o, e1, e2, e3, hm b e2 e4, e5⟩
theorem IntsT.rowN {q m s k : Nat} {w : World} {v : Value} {l : List Int} (h : IntsT k w v l) (hq : q ≤ k) (hk : s ≤ k) : RowN q m s w v l.length := by
  obtain ⟨⟨a, cap, e, h1, h2, h3⟩, h4⟩ := h
  refine ⟨a, cap, e, h1, h2, fun i hi => ?_⟩
  obtain ⟨b, o, e1, e2, e3⟩ := h3 i hi
  obtain ⟨f1, cs, f2⟩ := h4 b (by rw [e, e1]; rfl)
  exact ⟨b, o, e1, e2, by omega, .inr (by omega), ⟨_, e3⟩, frozen_of_block f2 _⟩
/-- The same, of a row of one's own below m. -/
theorem own_rowN {q m s n : Nat} {w : World} {v : Value} {l : List Int} (h : w.ownsRow q 3 1 v n (cells1 l)) (hn : l.length = n) (hm : w.heap.size ≤ m) : RowN q m s w v n := by
  subst hn
  obtain ⟨a, cap, e, h1, h2, h3⟩ := own_ints h
  obtain ⟨_, ⟨rfl, h5⟩ | ⟨g, cap2, cur, e5, hg, hh, _⟩⟩ := id h
  · have e' := e
    injection e' with _ e2 _
    exact ⟨a, cap, e, h1, h2, fun i hi => by omega⟩
  · refine ⟨a, cap, e, h1, h2, fun i hi => ?_⟩
    obtain ⟨b, o, e1, e2, e3⟩ := h3 i hi
    have hb := h.lt b (by rw [e, e1]; rfl)
    have hgb : g = b := by
      have := e.symm.trans e5
      rw [e1] at this
      injection this with this
      injection this with this
      injection this with this
      exact this.symm
    subst hgb
    exact ⟨g, o, e1, e2, hb.1, .inl (by omega), ⟨_, e3⟩, frozen_of_block hh _⟩
theorem own_rowN2 {q m s n : Nat} {w : World} {v : Value} {l : List (Int × Int)} (h : w.ownsRow q 66 2 v n (cells2 l)) (hn : l.length = n) (hm : w.heap.size ≤ m) : RowN2 q m s w v n := by
  subst hn
  obtain ⟨a, cap, e, h1, h2, h3⟩ := own_pairs h
  obtain ⟨_, ⟨rfl, h5⟩ | ⟨g, cap2, cur, e5, hg, hh, _⟩⟩ := id h
  · have e' := e
    injection e' with _ e2 _
    exact ⟨a, cap, e, h1, h2, fun i hi => by omega⟩
  · refine ⟨a, cap, e, h1, h2, fun i hi => ?_⟩
    obtain ⟨b, o, e1, e2, e3, e4⟩ := h3 i hi
    have hb := h.lt b (by rw [e, e1]; rfl)
    have hgb : g = b := by
      have := e.symm.trans e5
      rw [e1] at this
      injection this with this
      injection this with this
      injection this with this
      exact this.symm
    subst hgb
    exact ⟨g, o, e1, e2, hb.1, .inl (by omega), ⟨_, e4⟩, frozen_of_block hh _⟩
/-- What stores leave: all below q, and the office between m and s. -/
structure LeanB (q m s : Nat) (w2 w5 wr : World) : Prop where
  bel : Below q w2 wr
  mid : Mid m s w5 wr
  siz : s ≤ wr.heap.size
theorem LeanB.set {q m s : Nat} {w2 w5 wr : World} (h : LeanB q m s w2 w5 wr) {p : Addr} (hq : q ≤ p.block) (hp : p.block < m ∨ s ≤ p.block) (u : Value) : LeanB q m s w2 w5 (wr.setCell p u) :=
  ⟨h.bel.setCell hq u, h.mid.set hp u, by simpa using h.siz⟩
theorem LeanB.below {q m s : Nat} {w2 w5 wr w' : World} (h : LeanB q m s w2 w5 wr) (hb : Below wr.heap.size wr w') (hq : q ≤ wr.heap.size) : LeanB q m s w2 w5 w' :=
  ⟨h.bel.trans (hb.mono hq), h.mid.below hb h.siz, Nat.le_trans h.siz hb.size⟩
theorem box_set {w : World} {g : Nat} {o : Obj} (h : w.heap[g]? = some o) {p : Addr} (hp : p.block ≠ g) (u : Value) : (w.setCell p u).heap[g]? = some o := (Below.heap_setCell _ _ _ _ (fun e => hp e.symm)).trans h
theorem own_len {w : World} {base e size n : Nat} {v : Value} {xs : List Value} (h : w.ownsRow base e size v n xs) : n ≤ 9223372036854775807 := by
  rcases h.2 with ⟨_, rfl⟩ | ⟨g, cap, cur, _, _, _, h1, h2, _⟩
  · omega
  · unfold maxLen at h2; omega
end Go.Proofs.YthooacpfmjpdmaaGreatDoor
