/- Lists, bools and boxes in memory. Conditions: as said. -/
import Derived.Test.YthooacpfmjpdmaaGreatDoorOTerm
import Derived.WalkSmall
import Derived.Laws.Rows
namespace Go.Proofs.YthooacpfmjpdmaaGreatDoor
open Go.RowKit
theorem IntsAt.cellAt {w : World} {a : Option Addr} {n cap : Nat} {l : List Int} (h : IntsAt w (.slice a n cap) l) {m : Nat} (hm : m < l.length) :
    ∃ b o, a = some ⟨b, o, none⟩ ∧ b < w.heap.size ∧ w.cell? ⟨b, o + m, none⟩ = some (.int .i64 (gi l 0 m)) := by
  obtain ⟨a', cap', hv, _, _, h3⟩ := h
  cases hv
  exact h3 m hm
/-- v is a slice of bools. -/
def BoolsAt (w : World) (v : Value) (l : List Bool) : Prop :=
  ∃ (a : Option Addr) (cap : Nat), v = .slice a l.length cap ∧ l.length ≤ cap ∧ cap ≤ 9223372036854775807 ∧
    ∀ i, i < l.length → ∃ b o, a = some ⟨b, o, none⟩ ∧ b < w.heap.size ∧ w.cell? ⟨b, o + i, none⟩ = some (.bool (gi l false i))
theorem BoolsAt.cellAt {w : World} {a : Option Addr} {n cap : Nat} {l : List Bool} (h : BoolsAt w (.slice a n cap) l) {m : Nat} (hm : m < l.length) :
    ∃ b o, a = some ⟨b, o, none⟩ ∧ b < w.heap.size ∧ w.cell? ⟨b, o + m, none⟩ = some (.bool (gi l false m)) := by
  obtain ⟨a', cap', hv, _, _, h3⟩ := h
  cases hv
  exact h3 m hm
/-- The call gives v, and the world stays. -/
def Same (P : Program) (f : FuncId) (args : Array Value) (w : World) (v : Value) : Prop := Calls P f args w fun e w' => e = .returned v ∧ w = w'
theorem Same.gives {P : Program} {f : FuncId} {args : Array Value} {w : World} {v : Value} (h : Same P f args w v) : Gives P f args w v := Gives.of_same h
theorem Same.use {P : Program} {f : FuncId} {args : Array Value} {w : World} {v : Value} {R : Ending → World → Prop} (h : Same P f args w v) (k : R (.returned v) w) : Calls P f args w R :=
  h.mono fun _ _ ⟨he, hw⟩ => he ▸ hw ▸ k
theorem infoInt : (Tryz.prog.info? 3).map (fun i => (i.zero, i.size, i.bytes)) = some (some (.int .i64 0), 1, 8) := by kernel_rfl
theorem infoBool : (Tryz.prog.info? 4).map (fun i => (i.zero, i.size, i.bytes)) = some (some (.bool false), 1, 1) := by kernel_rfl
/-- Block b holds the cells g 0, g 1, .. (n of them). -/
def blk (w : World) (b : Nat) (e : TypeId) (g : Nat → Value) (n : Nat) : Prop := w.heap[b]? = some (.cells ((List.range n).map g).toArray e (0, 0))
theorem blk.lt {w : World} {b : Nat} {e : TypeId} {g : Nat → Value} {n : Nat} (h : blk w b e g n) : b < w.heap.size := (Array.getElem?_eq_some_iff.1 h).1
theorem blk.cell {w : World} {b : Nat} {e : TypeId} {g : Nat → Value} {n i : Nat} (h : blk w b e g n) (hi : i < n) : w.cell? ⟨b, i, none⟩ = some (g i) := by
  rw [cell_of_block h i]; simp [hi]
theorem blk.frozen {w : World} {b : Nat} {e : TypeId} {g : Nat → Value} {n : Nat} (h : blk w b e g n) (i : Nat) : w.frozen? ⟨b, i, none⟩ = false := frozen_of_block h i
theorem blk.congr {w : World} {b : Nat} {e : TypeId} {g g' : Nat → Value} {n : Nat} (h : blk w b e g n) (hg : ∀ j, j < n → g j = g' j) : blk w b e g' n := by
  unfold blk at h ⊢
  rw [h, List.map_congr_left (fun j hj => hg j (List.mem_range.1 hj))]
theorem blk.set {w : World} {b : Nat} {e : TypeId} {g g' : Nat → Value} {n i : Nat} {v : Value} (h : blk w b e g n) (hg : ∀ j, j < n → (if j = i then v else g j) = g' j) : blk (w.setCell ⟨b, i, none⟩ v) b e g' n := by
  have h1 := block_set h i v
  unfold blk
  rw [h1]
  congr 2
  apply Array.ext_getElem?
  intro j
  rw [Array.getElem?_setIfInBounds]
  simp only [List.size_toArray, List.length_map, List.length_range, List.getElem?_toArray, List.getElem?_map]
  by_cases hj : j < n
  · rw [List.getElem?_range hj]
    by_cases e : i = j
    · subst e
      have := hg i hj
      rw [if_pos rfl] at this
      simp [hj, this]
    · have := hg j hj
      rw [if_neg (fun k => e k.symm)] at this
      simp [e, this]
  · have h2 : (List.range n)[j]? = none := by rw [List.getElem?_eq_none_iff]; simp; omega
    rw [h2]
    by_cases e : i = j
    · subst e; simp [hj]
    · simp [e]
theorem blk.same {w w' : World} {b : Nat} {e : TypeId} {g : Nat → Value} {n : Nat} (h : blk w b e g n) (hw : w'.heap[b]? = w.heap[b]?) : blk w' b e g n := hw.trans h
theorem blk.below {w w' : World} {b : Nat} {e : TypeId} {g : Nat → Value} {n : Nat} (h : blk w b e g n) (hb : Below w.heap.size w w') : blk w' b e g n := h.same (hb.block b h.lt)
theorem blk.alloc {w : World} {b : Nat} {e : TypeId} {g : Nat → Value} {n : Nat} (h : blk w b e g n) (o : Obj) : blk (w.alloc o) b e g n := h.below (by (repeat' (first | exact Below.refl _ _ | assumption | refine below_new ?_ _ | refine below_draw ?_ | refine below_tail (by assumption) ?_ | refine below_set ?_ (by first | omega | (simp <;> omega)) _)))
theorem blk.new (w : World) (e : TypeId) (g : Nat → Value) (n : Nat) {b : Nat} (hb : b = w.heap.size) : blk (w.alloc (.cells ((List.range n).map g).toArray e)) b e g n := by
  subst hb
  unfold blk
  rw [World.alloc_heap_new]
theorem blk.bools {w : World} {b : Nat} {lf : Nat → Bool} {n : Nat} {e : TypeId} (h : blk w b e (fun j => .bool (lf j)) n) (hn : n ≤ 8) : BoolsAt w (.slice (some ⟨b, 0, none⟩) n n) ((List.range n).map lf) := by
  refine ⟨_, n, by simp, by simp, by omega, fun i hi => ⟨b, 0, rfl, h.lt, ?_⟩⟩
  simp at hi
  rw [Nat.zero_add, h.cell hi]
  simp [gi, hi]
theorem blk.ints {w : World} {b : Nat} {f : Nat → Int} {n : Nat} {e : TypeId} (h : blk w b e (fun j => .int .i64 (f j)) n) (hn : n ≤ 8) : IntsAt w (.slice (some ⟨b, 0, none⟩) n n) ((List.range n).map f) := by
  refine ⟨_, n, by simp, by simp, by omega, fun i hi => ⟨b, 0, rfl, h.lt, ?_⟩⟩
  simp at hi
  rw [Nat.zero_add, h.cell hi]
  simp [gi, hi]
theorem made_cells (z : Value) (n : Nat) (h : z.cells = #[z]) : madeCells z.cells (n * 1) = ((List.range n).map fun _ => z).toArray := by
  unfold madeCells
  rw [h]
  apply Array.ext'
  simp only [Nat.mul_one, Array.toList_map, Array.toList_range]
  apply List.map_congr_left
  intro i _
  simp [Nat.mod_one]
theorem mk_ints (w : World) (n : Nat) (hn : n ≤ 8) : (Instr.makeSlice 22 (.int .i64 (n : Int)) (.int .i64 (n : Int))).run Tryz.prog w = .ok (.slice (some ⟨w.heap.size, 0, none⟩) n n) (w.alloc (.cells ((List.range n).map fun _ => Value.int .i64 0).toArray 3)) := by
  obtain ⟨i0, hi0, hz0, hi1, hi2⟩ := info_parts infoInt
  have := run_make (P := Tryz.prog) w 22 3 i0 _ Tryz.underlying22 hi0 hz0 .i64 .i64 n n (by omega) (by omega) (by rw [hi2]; omega) (by omega)
  rw [this, hi1]
  simp only [Int.toNat_natCast]
  rw [made_cells _ _ rfl]
theorem mk_bools (w : World) (n : Nat) (hn : n ≤ 8) : (Instr.makeSlice 86 (.int .i64 (n : Int)) (.int .i64 (n : Int))).run Tryz.prog w = .ok (.slice (some ⟨w.heap.size, 0, none⟩) n n) (w.alloc (.cells ((List.range n).map fun _ => Value.bool false).toArray 4)) := by
  obtain ⟨i0, hi0, hz0, hi1, hi2⟩ := info_parts infoBool
  have := run_make (P := Tryz.prog) w 86 4 i0 _ Tryz.underlying86 hi0 hz0 .i64 .i64 n n (by omega) (by omega) (by rw [hi2]; omega) (by omega)
  rw [this, hi1]
  simp only [Int.toNat_natCast]
  rw [made_cells _ _ rfl]
/-- Blocks of kind t from m on are kept. -/
def KeepT (m : Nat) (t : TypeId) (w w' : World) : Prop := w.heap.size ≤ w'.heap.size ∧ ∀ b cs fr, m ≤ b → w.heap[b]? = some (.cells cs t fr) → w'.heap[b]? = some (.cells cs t fr)
theorem KeepT.trans {m : Nat} {t : TypeId} {a b c : World} (h : KeepT m t a b) (k : KeepT m t b c) : KeepT m t a c := ⟨Nat.le_trans h.1 k.1, fun i cs fr hm hi => k.2 i cs fr hm (h.2 i cs fr hm hi)⟩
theorem KeepT.of_below {m : Nat} {t : TypeId} {w w' : World} (h : Below w.heap.size w w') : KeepT m t w w' := ⟨h.size, fun b _ _ _ hb => (h.block b (Array.getElem?_eq_some_iff.1 hb).1).trans hb⟩
/-- Numbers in a block of their kind, from m on. -/
def IntsT (m : Nat) (w : World) (v : Value) (l : List Int) : Prop := IntsAt w v l ∧ ∀ b, v.ownBlock = some b → m ≤ b ∧ ∃ cs, w.heap[b]? = some (.cells cs 3 (0, 0))
theorem IntsT.keep {m : Nat} {w w' : World} {v : Value} {l : List Int} (h : IntsT m w v l) (hk : KeepT m 3 w w') : IntsT m w' v l := by
  obtain ⟨⟨a, cap, rfl, h1, h2, h3⟩, h4⟩ := h
  refine ⟨⟨a, cap, rfl, h1, h2, fun i hi => ?_⟩, fun b hb => ?_⟩
  · obtain ⟨b, o, rfl, hlt, hc⟩ := h3 i hi
    obtain ⟨hm, cs, hh⟩ := h4 b rfl
    exact ⟨b, o, rfl, Nat.lt_of_lt_of_le hlt hk.1, (World.cell?_of_block (a := ⟨b, o + i, none⟩) ((hk.2 b cs _ hm hh).trans hh.symm)).trans hc⟩
  · obtain ⟨hm, cs, hh⟩ := h4 b hb
    exact ⟨hm, cs, hk.2 b cs _ hm hh⟩
theorem own_intsT {w : World} {base m : Nat} {v : Value} {l : List Int} (h : w.ownsRow base 3 1 v l.length (cells1 l)) (hm : m ≤ base) : IntsT m w v l := by
  refine ⟨own_ints h, fun b hb => ?_⟩
  obtain ⟨_, ⟨rfl, _⟩ | ⟨g, cap, cur, rfl, hg, hh, _⟩⟩ := h
  · cases hb
  · cases hb
    exact ⟨Nat.le_trans hm hg, _, hh⟩
theorem gi_append_lt {α : Type} {l : List α} {x d : α} {j : Nat} (h : j < l.length) : gi (l ++ [x]) d j = gi l d j := by
  unfold gi; rw [List.getElem?_append_left h]
theorem gi_append_eq {α : Type} {l : List α} {x d : α} : gi (l ++ [x]) d l.length = x := by simp [gi]
theorem app_src1 (w : World) (u : Value) (t : TypeId) : ∀ j x, [u][j]? = some x → (w.alloc (.cells #[u] t)).cell? ((⟨w.heap.size, 0, none⟩ : Addr).add j) = some x := by
  intro j x hj
  match j, hj with
  | 0, hj => simp at hj; subst hj; simp [Addr.add]
theorem one_int (x : Int) : ∀ u ∈ [Value.int .i64 x], u.oneCell' = true := by
  intro u hu
  simp only [List.mem_singleton] at hu
  subst hu; rfl
theorem alloc_new (w : World) (o : Obj) {b : Nat} (hb : b = w.heap.size) : (w.alloc o).heap[b]? = some o := by subst hb; exact World.alloc_heap_new w o
theorem below_app {B : Nat} {a w w' : World} {o : Obj} {row : Option Nat} (h : Below B a w) (hB : B ≤ a.heap.size) (hg : (w.alloc o).grownBy w' row) (hr : ∀ j, row = some j → B ≤ j) : Below B a w' :=
  (h.alloc (Nat.le_trans hB h.size) o).trans ((Below.refl B _).grown hg (by have := h.size; simp; omega) hr)
theorem IntsT.mono {m m' : Nat} {w : World} {v : Value} {l : List Int} (h : IntsT m w v l) (hm : m' ≤ m) : IntsT m' w v l := ⟨h.1, fun b hb => ⟨Nat.le_trans hm (h.2 b hb).1, (h.2 b hb).2⟩⟩
end Go.Proofs.YthooacpfmjpdmaaGreatDoor
