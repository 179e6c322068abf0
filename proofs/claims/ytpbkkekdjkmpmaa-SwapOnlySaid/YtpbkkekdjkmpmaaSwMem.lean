/- Rows of rows that a call has made, by the kinds of their blocks; blocks cell by cell; makes and appends in a fence. Conditions: as said in each. -/
import Derived.Test.YtpbkkekdjkmpmaaSwSpec
import Derived.Test.YtpbkkekdjkmpmaaSwIter
namespace Go.Proofs.Ytpbkkekdjkmpmaa
open Go.RowKit

theorem infoInt : (Try.prog.info? 3).map (fun i => (i.zero, i.size, i.bytes)) = some (some (.int .i64 0), 1, 8) := by kernel_rfl
theorem infoBool : (Try.prog.info? 4).map (fun i => (i.zero, i.size, i.bytes)) = some (some (.bool false), 1, 1) := by kernel_rfl
theorem infoInts : (Try.prog.info? 35).map (fun i => (i.zero, i.size, i.bytes)) = some (some (.slice none 0 0), 1, 24) := by kernel_rfl
theorem infoTab : (Try.prog.info? 22).map (fun i => (i.zero, i.size, i.bytes)) = some (some (.slice none 0 0), 1, 24) := by kernel_rfl

/-- Block b holds the cells g 0, g 1, .. (n of them). -/
def blk (w : World) (b : Nat) (e : TypeId) (g : Nat → Value) (n : Nat) : Prop := w.heap[b]? = some (.cells ((List.range n).map g).toArray e (0, 0))
theorem blk.lt {w : World} {b : Nat} {e : TypeId} {g : Nat → Value} {n : Nat} (h : blk w b e g n) : b < w.heap.size := (Array.getElem?_eq_some_iff.1 h).1
theorem blk.cell {w : World} {b : Nat} {e : TypeId} {g : Nat → Value} {n i : Nat} (h : blk w b e g n) (hi : i < n) : w.cell? ⟨b, i, none⟩ = some (g i) := by
  rw [cell_of_block h i]; simp [hi]
theorem blk.frozen {w : World} {b : Nat} {e : TypeId} {g : Nat → Value} {n : Nat} (h : blk w b e g n) (i : Nat) : w.frozen? ⟨b, i, none⟩ = false := frozen_of_block h i
theorem blk.congr {w : World} {b : Nat} {e : TypeId} {g g' : Nat → Value} {n : Nat} (h : blk w b e g n) (hg : ∀ j, j < n → g j = g' j) : blk w b e g' n := by
  unfold blk at h ⊢
  rw [h, List.map_congr_left (fun j hj => hg j (List.mem_range.1 hj))]
theorem blk.set {w : World} {b : Nat} {e : TypeId} {g g' : Nat → Value} {n i : Nat} {v : Value} (h : blk w b e g n) (hg : ∀ j, j < n → (if j = i then v else g j) = g' j) : blk (w.setCell ⟨b, i, none⟩ v) b e g' n := by
  have h1 := block_set h i v
  unfold blk
  rw [h1]
  congr 2
  apply Array.ext_getElem?
  intro j
  rw [Array.getElem?_setIfInBounds]
  simp only [List.size_toArray, List.length_map, List.length_range, List.getElem?_toArray, List.getElem?_map]
  by_cases hj : j < n
  · rw [List.getElem?_range hj]
    by_cases e : i = j
    · subst e
      have := hg i hj
      rw [if_pos rfl] at this
      simp [hj, this]
    · have := hg j hj
      rw [if_neg (fun k => e k.symm)] at this
      simp [e, this]
  · have h2 : (List.range n)[j]? = none := by rw [List.getElem?_eq_none_iff]; simp; omega
    rw [h2]
    by_cases e : i = j
    · subst e; simp [hj]
    · simp [e]
theorem blk.same {w w' : World} {b : Nat} {e : TypeId} {g : Nat → Value} {n : Nat} (h : blk w b e g n) (hw : w'.heap[b]? = w.heap[b]?) : blk w' b e g n := hw.trans h
theorem blk.below {w w' : World} {b : Nat} {e : TypeId} {g : Nat → Value} {n : Nat} (h : blk w b e g n) (hb : Below w.heap.size w w') : blk w' b e g n := h.same (hb.block b h.lt)
theorem blk.alloc {w : World} {b : Nat} {e : TypeId} {g : Nat → Value} {n : Nat} (h : blk w b e g n) (o : Obj) : blk (w.alloc o) b e g n := h.below (by (repeat' (first | exact Below.refl _ _ | assumption | refine below_new ?_ _ | refine below_draw ?_ | refine below_tail (by assumption) ?_ | refine below_set ?_ (by first | omega | (simp <;> omega)) _)))
theorem blk.set_other {w : World} {b : Nat} {e : TypeId} {g : Nat → Value} {n : Nat} (h : blk w b e g n) {p : Addr} (hp : b ≠ p.block) (u : Value) : blk (w.setCell p u) b e g n := h.same (Below.heap_setCell _ _ _ _ hp)
theorem blk.new (w : World) (e : TypeId) (g : Nat → Value) (n : Nat) {b : Nat} (hb : b = w.heap.size) : blk (w.alloc (.cells ((List.range n).map g).toArray e)) b e g n := by
  subst hb
  unfold blk
  rw [World.alloc_heap_new]
theorem blk.bools {w : World} {b : Nat} {lf : Nat → Bool} {n : Nat} {e : TypeId} (h : blk w b e (fun j => .bool (lf j)) n) (hn : n ≤ 5) : BoolsAt w (.slice (some ⟨b, 0, none⟩) n n) ((List.range n).map lf) := by
  refine ⟨_, n, by simp, by simp, by omega, fun i hi => ⟨b, 0, rfl, h.lt, ?_⟩⟩
  simp at hi
  rw [Nat.zero_add, h.cell hi]
  simp [gi, hi]
theorem blk.ints {w : World} {b : Nat} {f : Nat → Int} {n : Nat} {e : TypeId} (h : blk w b e (fun j => .int .i64 (f j)) n) (hn : n ≤ 5) : IntsAt w (.slice (some ⟨b, 0, none⟩) n n) ((List.range n).map f) := by
  refine ⟨_, n, by simp, by simp, by omega, fun i hi => ⟨b, 0, rfl, h.lt, ?_⟩⟩
  simp at hi
  rw [Nat.zero_add, h.cell hi]
  simp [gi, hi]

theorem made_cells (z : Value) (n : Nat) (h : z.cells = #[z]) : madeCells z.cells (n * 1) = ((List.range n).map fun _ => z).toArray := by
  unfold madeCells
  rw [h]
  apply Array.ext'
  simp only [Nat.mul_one, Array.toList_map, Array.toList_range]
  apply List.map_congr_left
  intro i _
  simp [Nat.mod_one]
theorem mk_ints (w : World) (n : Nat) (hn : n ≤ 5) : (Instr.makeSlice 35 (.int .i64 (n : Int)) (.int .i64 (n : Int))).run Try.prog w = .ok (.slice (some ⟨w.heap.size, 0, none⟩) n n) (w.alloc (.cells ((List.range n).map fun _ => Value.int .i64 0).toArray 3)) := by
  obtain ⟨i0, hi0, hz0, hi1, hi2⟩ := info_parts infoInt
  have := run_make (P := Try.prog) w 35 3 i0 _ Try.underlying35 hi0 hz0 .i64 .i64 n n (by omega) (by omega) (by rw [hi2]; omega) (by omega)
  rw [this, hi1]
  simp only [Int.toNat_natCast]
  rw [made_cells _ _ rfl]
theorem mk_bools (w : World) (n : Nat) (hn : n ≤ 5) : (Instr.makeSlice 68 (.int .i64 (n : Int)) (.int .i64 (n : Int))).run Try.prog w = .ok (.slice (some ⟨w.heap.size, 0, none⟩) n n) (w.alloc (.cells ((List.range n).map fun _ => Value.bool false).toArray 4)) := by
  obtain ⟨i0, hi0, hz0, hi1, hi2⟩ := info_parts infoBool
  have := run_make (P := Try.prog) w 68 4 i0 _ Try.underlying68 hi0 hz0 .i64 .i64 n n (by omega) (by omega) (by rw [hi2]; omega) (by omega)
  rw [this, hi1]
  simp only [Int.toNat_natCast]
  rw [made_cells _ _ rfl]

/-- Blocks of kind t from m on are kept. -/
def KeepT (m : Nat) (t : TypeId) (w w' : World) : Prop := w.heap.size ≤ w'.heap.size ∧ ∀ b cs fr, m ≤ b → w.heap[b]? = some (.cells cs t fr) → w'.heap[b]? = some (.cells cs t fr)
theorem KeepT.trans {m : Nat} {t : TypeId} {a b c : World} (h : KeepT m t a b) (k : KeepT m t b c) : KeepT m t a c := ⟨Nat.le_trans h.1 k.1, fun i cs fr hm hi => k.2 i cs fr hm (h.2 i cs fr hm hi)⟩
theorem KeepT.of_below {m : Nat} {t : TypeId} {w w' : World} (h : Below w.heap.size w w') : KeepT m t w w' := ⟨h.size, fun b _ _ _ hb => (h.block b (Array.getElem?_eq_some_iff.1 hb).1).trans hb⟩
theorem KeepT.of_priv {B D m : Nat} {t : TypeId} {w w' : World} (h : Priv B D w w') (hm : B + D ≤ m) : KeepT m t w w' := ⟨h.size, fun b cs fr hb hc => (h.block b (Array.getElem?_eq_some_iff.1 hc).1 (by omega)).trans hc⟩
theorem KeepT.of_grown {m base size n : Nat} {t e : TypeId} {w w' : World} {v : Value} {xs : List Value} (h : w.grownBy w' v.ownBlock) (ho : w.ownsRow base e size v n xs) (ht : t ≠ e) : KeepT m t w w' := by
  refine ⟨h.size, fun b cs fr _ hc => (h.block b (Array.getElem?_eq_some_iff.1 hc).1 fun e1 => ?_).trans hc⟩
  obtain ⟨_, ⟨rfl, _⟩ | ⟨g, cap, cur, rfl, _, hg, _⟩⟩ := ho
  · cases e1
  · have e2 := Option.some.inj e1
    subst e2
    rw [hc] at hg
    injection hg with hg
    injection hg with _ hg
    exact ht hg

/-- Numbers in a block of their kind, from m on. -/
def IntsT (m : Nat) (w : World) (v : Value) (l : List Int) : Prop := IntsAt w v l ∧ ∀ b, v.ownBlock = some b → m ≤ b ∧ ∃ cs fr, w.heap[b]? = some (.cells cs 3 fr)
theorem IntsT.keep {m : Nat} {w w' : World} {v : Value} {l : List Int} (h : IntsT m w v l) (hk : KeepT m 3 w w') : IntsT m w' v l := by
  obtain ⟨⟨a, cap, rfl, h1, h2, h3⟩, h4⟩ := h
  refine ⟨⟨a, cap, rfl, h1, h2, fun i hi => ?_⟩, fun b hb => ?_⟩
  · obtain ⟨b, o, rfl, hlt, hc⟩ := h3 i hi
    obtain ⟨hm, cs, fr, hh⟩ := h4 b rfl
    exact ⟨b, o, rfl, Nat.lt_of_lt_of_le hlt hk.1, (World.cell?_of_block (a := ⟨b, o + i, none⟩) ((hk.2 b cs fr hm hh).trans hh.symm)).trans hc⟩
  · obtain ⟨hm, cs, fr, hh⟩ := h4 b hb
    exact ⟨hm, cs, fr, hk.2 b cs fr hm hh⟩
theorem own_intsT {w : World} {base m : Nat} {v : Value} {l : List Int} (h : w.ownsRow base 3 1 v l.length (cells1 l)) (hm : m ≤ base) : IntsT m w v l := by
  refine ⟨own_ints h, fun b hb => ?_⟩
  obtain ⟨_, ⟨rfl, _⟩ | ⟨g, cap, cur, rfl, hg, hh, _⟩⟩ := h
  · cases hb
  · cases hb
    exact ⟨Nat.le_trans hm hg, _, _, hh⟩
/-- Rows of numbers, likewise. -/
def TableT (m : Nat) (w : World) (v : Value) (L : List (List Int)) : Prop :=
  ∃ (a : Option Addr) (cap : Nat), v = .slice a L.length cap ∧ L.length ≤ cap ∧ cap ≤ 9223372036854775807 ∧
    (∀ b, v.ownBlock = some b → m ≤ b ∧ ∃ cs fr, w.heap[b]? = some (.cells cs 35 fr)) ∧
    ∀ i, i < L.length → ∃ b o u, a = some ⟨b, o, none⟩ ∧ b < w.heap.size ∧ w.cell? ⟨b, o + i, none⟩ = some u ∧ IntsT m w u (gi L [] i)
theorem TableT.table {m : Nat} {w : World} {v : Value} {L : List (List Int)} (h : TableT m w v L) : TableAt w v L := by
  obtain ⟨a, cap, hv, h1, h2, _, h3⟩ := h
  refine ⟨a, cap, hv, h1, h2, fun i hi => ?_⟩
  obtain ⟨b, o, u, ha, hlt, hc, hu⟩ := h3 i hi
  exact ⟨b, o, u, ha, hlt, hc, hu.1⟩
theorem TableT.keep {m : Nat} {w w' : World} {v : Value} {L : List (List Int)} (h : TableT m w v L) (hk : KeepT m 35 w w') (hk2 : KeepT m 3 w w') : TableT m w' v L := by
  obtain ⟨a, cap, rfl, h1, h2, h4, h3⟩ := h
  refine ⟨a, cap, rfl, h1, h2, fun b hb => ?_, fun i hi => ?_⟩
  · obtain ⟨hm, cs, fr, hh⟩ := h4 b hb
    exact ⟨hm, cs, fr, hk.2 b cs fr hm hh⟩
  · obtain ⟨b, o, u, rfl, hlt, hc, hu⟩ := h3 i hi
    obtain ⟨hm, cs, fr, hh⟩ := h4 b rfl
    exact ⟨b, o, u, rfl, Nat.lt_of_lt_of_le hlt hk.1, (World.cell?_of_block (a := ⟨b, o + i, none⟩) ((hk.2 b cs fr hm hh).trans hh.symm)).trans hc, hu.keep hk2⟩
/-- A row of rows that grows. -/
def OwnTab (m : Nat) (w : World) (v : Value) (L : List (List Int)) : Prop := ∃ vals, w.ownsRow m 35 1 v L.length vals ∧ ∀ j, j < L.length → ∃ u, vals[j]? = some u ∧ IntsT m w u (gi L [] j)
theorem OwnTab.nil (m : Nat) (w : World) : OwnTab m w (.slice none 0 0) [] := ⟨[], World.ownsRow_nil _ _ _ _, fun j hj => absurd hj (by simp)⟩
theorem own_keep {m base n : Nat} {e : TypeId} {w w' : World} {v : Value} {xs : List Value} (h : w.ownsRow base e 1 v n xs) (hm : m ≤ base) (hk : KeepT m e w w') : w'.ownsRow base e 1 v n xs := by
  obtain ⟨h1, h | ⟨g, cap, cur, hv, hg, hh, hr⟩⟩ := h
  · exact ⟨h1, .inl h⟩
  · exact ⟨h1, .inr ⟨g, cap, cur, hv, hg, hk.2 g _ _ (by omega) hh, hr⟩⟩
theorem OwnTab.keep {m : Nat} {w w' : World} {v : Value} {L : List (List Int)} (h : OwnTab m w v L) (hk : KeepT m 35 w w') (hk2 : KeepT m 3 w w') : OwnTab m w' v L := by
  obtain ⟨vals, h1, h2⟩ := h
  refine ⟨vals, own_keep h1 (Nat.le_refl _) hk, fun j hj => ?_⟩
  obtain ⟨u, hu, hi⟩ := h2 j hj
  exact ⟨u, hu, hi.keep hk2⟩
theorem gi_append_lt {α : Type} {l : List α} {x d : α} {j : Nat} (h : j < l.length) : gi (l ++ [x]) d j = gi l d j := by
  unfold gi; rw [List.getElem?_append_left h]
theorem gi_append_eq {α : Type} {l : List α} {x d : α} : gi (l ++ [x]) d l.length = x := by simp [gi]
theorem OwnTab.app {m n : Nat} {w w' : World} {v v' u : Value} {L : List (List Int)} {x : List Int} {vals : List Value} (h1 : w.ownsRow m 35 1 v L.length vals) (h2 : ∀ j, j < L.length → ∃ u, vals[j]? = some u ∧ IntsT m w u (gi L [] j))
    (hx : IntsT m w u x) (ho : w'.ownsRow m 35 1 v' n (vals ++ [u])) (hn : n = L.length + 1) (hg : w.grownBy w' v.ownBlock) : OwnTab m w' v' (L ++ [x]) := by
  have hk : KeepT m 3 w w' := KeepT.of_grown hg h1 (by decide)
  have hl : vals.length = L.length := by have := h1.1; omega
  refine ⟨vals ++ [u], by rw [List.length_append, List.length_singleton, ← hn]; exact ho, fun j hj => ?_⟩
  simp at hj
  by_cases e : j = L.length
  · subst e
    exact ⟨u, by rw [← hl]; simp, by rw [gi_append_eq]; exact hx.keep hk⟩
  · have hj' : j < L.length := by omega
    obtain ⟨u', hu, hi⟩ := h2 j hj'
    exact ⟨u', by rw [List.getElem?_append_left (by omega)]; exact hu, by rw [gi_append_lt hj']; exact hi.keep hk⟩
theorem OwnTab.table {m : Nat} {w : World} {v : Value} {L : List (List Int)} (h : OwnTab m w v L) : TableT m w v L := by
  obtain ⟨vals, h1, h2⟩ := h
  rcases id h1 with ⟨hl, ⟨rfl, h0⟩ | ⟨g, cap, cur, rfl, hb, hg, hn, hm, hs, ht⟩⟩
  · rw [List.length_eq_zero_iff] at h0; subst h0
    exact ⟨none, 0, rfl, by simp, by decide, fun b hb => (by cases hb), fun i hi => absurd hi (by simp)⟩
  · refine ⟨_, cap, rfl, hn, by unfold maxLen at hm; omega, fun b hb' => by cases hb'; exact ⟨hb, _, _, hg⟩, fun i hi => ?_⟩
    obtain ⟨u, hu, hiu⟩ := h2 i hi
    exact ⟨g, 0, u, rfl, (Array.getElem?_eq_some_iff.1 hg).1, by rw [Nat.zero_add, h1.cellAt i (by omega)]; exact hu, hiu⟩
/-- Rows of rows of rows. -/
def RoundsAt (w : World) (v : Value) (L : List (List (List Int))) : Prop :=
  ∃ (a : Option Addr) (cap : Nat), v = .slice a L.length cap ∧ L.length ≤ cap ∧ cap ≤ 9223372036854775807 ∧
    ∀ i, i < L.length → ∃ b o u, a = some ⟨b, o, none⟩ ∧ b < w.heap.size ∧ w.cell? ⟨b, o + i, none⟩ = some u ∧ TableAt w u (gi L [] i)
theorem RoundsAt.below {w w' : World} {v : Value} {L : List (List (List Int))} (h : RoundsAt w v L) (hb : Below w.heap.size w w') : RoundsAt w' v L := by
  obtain ⟨a, cap, hv, h1, h2, h3⟩ := h
  refine ⟨a, cap, hv, h1, h2, fun i hi => ?_⟩
  obtain ⟨b, o, u, ha, hlt, hc, hu⟩ := h3 i hi
  exact ⟨b, o, u, ha, Nat.lt_of_lt_of_le hlt hb.size, (hb.cell (p := ⟨b, o + i, none⟩) hlt).trans hc, hu.below hb⟩
theorem RoundsAt.row {w : World} {a : Option Addr} {n cap : Nat} {L : List (List (List Int))} (h : RoundsAt w (.slice a n cap) L) {m : Nat} (hm : m < L.length) :
    ∃ b o u, a = some ⟨b, o, none⟩ ∧ b < w.heap.size ∧ w.cell? ⟨b, o + m, none⟩ = some u ∧ TableAt w u (gi L [] m) := by
  obtain ⟨a', cap', hv, _, _, h3⟩ := h
  cases hv
  exact h3 m hm
def OwnRnd (m : Nat) (w : World) (v : Value) (L : List (List (List Int))) : Prop := ∃ vals, w.ownsRow m 22 1 v L.length vals ∧ ∀ j, j < L.length → ∃ u, vals[j]? = some u ∧ TableT m w u (gi L [] j)
theorem OwnRnd.nil (m : Nat) (w : World) : OwnRnd m w (.slice none 0 0) [] := ⟨[], World.ownsRow_nil _ _ _ _, fun j hj => absurd hj (by simp)⟩
theorem OwnRnd.keep {m : Nat} {w w' : World} {v : Value} {L : List (List (List Int))} (h : OwnRnd m w v L) (hk : KeepT m 22 w w') (hk1 : KeepT m 35 w w') (hk2 : KeepT m 3 w w') : OwnRnd m w' v L := by
  obtain ⟨vals, h1, h2⟩ := h
  refine ⟨vals, own_keep h1 (Nat.le_refl _) hk, fun j hj => ?_⟩
  obtain ⟨u, hu, hi⟩ := h2 j hj
  exact ⟨u, hu, hi.keep hk1 hk2⟩
theorem OwnRnd.app {m n : Nat} {w w' : World} {v v' u : Value} {L : List (List (List Int))} {x : List (List Int)} {vals : List Value} (h1 : w.ownsRow m 22 1 v L.length vals) (h2 : ∀ j, j < L.length → ∃ u, vals[j]? = some u ∧ TableT m w u (gi L [] j))
    (hx : TableT m w u x) (ho : w'.ownsRow m 22 1 v' n (vals ++ [u])) (hn : n = L.length + 1) (hg : w.grownBy w' v.ownBlock) : OwnRnd m w' v' (L ++ [x]) := by
  have hk1 : KeepT m 35 w w' := KeepT.of_grown hg h1 (by decide)
  have hk : KeepT m 3 w w' := KeepT.of_grown hg h1 (by decide)
  have hl : vals.length = L.length := by have := h1.1; omega
  refine ⟨vals ++ [u], by rw [List.length_append, List.length_singleton, ← hn]; exact ho, fun j hj => ?_⟩
  simp at hj
  by_cases e : j = L.length
  · subst e
    exact ⟨u, by rw [← hl]; simp, by rw [gi_append_eq]; exact hx.keep hk1 hk⟩
  · have hj' : j < L.length := by omega
    obtain ⟨u', hu, hi⟩ := h2 j hj'
    exact ⟨u', by rw [List.getElem?_append_left (by omega)]; exact hu, by rw [gi_append_lt hj']; exact hi.keep hk1 hk⟩
theorem OwnRnd.rounds {m : Nat} {w : World} {v : Value} {L : List (List (List Int))} (h : OwnRnd m w v L) : RoundsAt w v L := by
  obtain ⟨vals, h1, h2⟩ := h
  rcases id h1 with ⟨hl, ⟨rfl, h0⟩ | ⟨g, cap, cur, rfl, hb, hg, hn, hm, hs, ht⟩⟩
  · rw [List.length_eq_zero_iff] at h0; subst h0
    exact ⟨none, 0, rfl, by simp, by decide, fun i hi => absurd hi (by simp)⟩
  · refine ⟨_, cap, rfl, hn, by unfold maxLen at hm; omega, fun i hi => ?_⟩
    obtain ⟨u, hu, hiu⟩ := h2 i hi
    exact ⟨g, 0, u, rfl, (Array.getElem?_eq_some_iff.1 hg).1, by rw [Nat.zero_add, h1.cellAt i (by omega)]; exact hu, hiu.table⟩

theorem app_src1 (w : World) (u : Value) (t : TypeId) : ∀ j x, [u][j]? = some x → (w.alloc (.cells #[u] t)).cell? ((⟨w.heap.size, 0, none⟩ : Addr).add j) = some x := by
  intro j x hj
  match j, hj with
  | 0, hj => simp at hj; subst hj; simp [Addr.add]
theorem one_slice (a : Option Addr) (n c : Nat) : ∀ u ∈ [Value.slice a n c], u.oneCell' = true := by
  intro u hu
  simp only [List.mem_singleton] at hu
  subst hu; rfl
theorem one_int (x : Int) : ∀ u ∈ [Value.int .i64 x], u.oneCell' = true := by
  intro u hu
  simp only [List.mem_singleton] at hu
  subst hu; rfl
end Go.Proofs.Ytpbkkekdjkmpmaa
