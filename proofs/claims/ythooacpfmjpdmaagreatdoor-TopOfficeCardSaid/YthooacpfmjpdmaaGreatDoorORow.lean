/- Rows in memory that a call has made, read and written cell by cell; clones of lists. Conditions: as said. -/
import Derived.Test.YthooacpfmjpdmaaGreatDoorOVal2
namespace Go.Proofs.YthooacpfmjpdmaaGreatDoor
open Go.RowKit

/-- Block g is a row of these values, with room. -/
def RowAt (w : World) (g : Nat) (e : TypeId) (cap : Nat) (xs : List Value) : Prop :=
  xs.length ≤ cap ∧ cap ≤ maxLen ∧ ∃ cur : Array Value, w.heap[g]? = some (.cells cur e (0, 0)) ∧ cur.size = cap ∧ cur.toList.take xs.length = xs
theorem RowAt.lt {w : World} {g : Nat} {e : TypeId} {cap : Nat} {xs : List Value} (h : RowAt w g e cap xs) : g < w.heap.size := by
  obtain ⟨_, _, cur, hg, _⟩ := h
  exact (Array.getElem?_eq_some_iff.1 hg).1
theorem RowAt.same {w w' : World} {g : Nat} {e : TypeId} {cap : Nat} {xs : List Value} (h : RowAt w g e cap xs) (hw : w'.heap[g]? = w.heap[g]?) : RowAt w' g e cap xs := by
  obtain ⟨h1, h2, cur, hg, h3⟩ := h
  exact ⟨h1, h2, cur, hw.trans hg, h3⟩
theorem RowAt.below {w w' : World} {g : Nat} {e : TypeId} {cap : Nat} {xs : List Value} (h : RowAt w g e cap xs) (hb : Below w.heap.size w w') : RowAt w' g e cap xs := h.same (hb.block g h.lt)
theorem RowAt.alloc {w : World} {g : Nat} {e : TypeId} {cap : Nat} {xs : List Value} (h : RowAt w g e cap xs) (o : Obj) : RowAt (w.alloc o) g e cap xs := h.below (by (repeat' (first | exact Below.refl _ _ | assumption | refine below_new ?_ _ | refine below_draw ?_ | refine below_tail (by assumption) ?_ | refine below_set ?_ (by first | omega | (simp <;> omega)) _)))
theorem RowAt.other {w : World} {g : Nat} {e : TypeId} {cap : Nat} {xs : List Value} (h : RowAt w g e cap xs) {p : Addr} (hp : g ≠ p.block) (u : Value) : RowAt (w.setCell p u) g e cap xs := h.same (Below.heap_setCell _ _ _ _ hp)
theorem RowAt.keep {m : Nat} {w w' : World} {g : Nat} {e : TypeId} {cap : Nat} {xs : List Value} (h : RowAt w g e cap xs) (hm : m ≤ g) (hk : KeepT m e w w') : RowAt w' g e cap xs := by
  obtain ⟨h1, h2, cur, hg, h3⟩ := h
  exact ⟨h1, h2, cur, hk.2 g cur (0, 0) hm hg, h3⟩
theorem RowAt.get {w : World} {g : Nat} {e : TypeId} {cap : Nat} {xs : List Value} (h : RowAt w g e cap xs) {i : Nat} {x : Value} (hx : xs[i]? = some x) : w.cell? ⟨g, i, none⟩ = some x := by
  obtain ⟨h1, h2, cur, hg, h3, h4⟩ := h
  rw [cell_of_block hg i]
  have hi := (List.getElem?_eq_some_iff.1 hx).1
  rw [← h4, List.getElem?_take_of_lt hi] at hx
  simpa using hx
theorem RowAt.frozen {w : World} {g : Nat} {e : TypeId} {cap : Nat} {xs : List Value} (h : RowAt w g e cap xs) (i : Nat) : w.frozen? ⟨g, i, none⟩ = false := by
  obtain ⟨h1, h2, cur, hg, _⟩ := h
  exact frozen_of_block hg i
theorem RowAt.set {w : World} {g : Nat} {e : TypeId} {cap : Nat} {xs ys : List Value} (h : RowAt w g e cap xs) {i : Nat} (v : Value) (hy : xs.set i v = ys) : RowAt (w.setCell ⟨g, i, none⟩ v) g e cap ys := by
  subst hy
  obtain ⟨h1, h2, cur, hg, h3, h4⟩ := h
  refine ⟨by rw [List.length_set]; exact h1, h2, cur.setIfInBounds i v, block_set hg i v, by simp [h3], ?_⟩
  rw [List.length_set, Array.toList_setIfInBounds, List.take_set, h4]
theorem RowAt.own {w : World} {g : Nat} {e : TypeId} {cap n base : Nat} {xs : List Value} (h : RowAt w g e cap xs) (hb : base ≤ g) (hn : xs.length = n) : w.ownsRow base e 1 (.slice (some ⟨g, 0, none⟩) n cap) n xs := by
  subst hn
  obtain ⟨h1, h2, cur, hg, h3, h4⟩ := h
  exact ⟨by simp, .inr ⟨g, cap, cur, rfl, hb, hg, h1, h2, by simp [h3], by simpa using h4⟩⟩
theorem RowAt.of_own {w : World} {e : TypeId} {n base : Nat} {v : Value} {xs : List Value} (h : w.ownsRow base e 1 v n xs) (hn : 0 < n) : ∃ g cap, v = .slice (some ⟨g, 0, none⟩) n cap ∧ base ≤ g ∧ RowAt w g e cap xs ∧ xs.length = n := by
  obtain ⟨hl, ⟨_, h0⟩ | ⟨g, cap, cur, rfl, hb, hg, h1, h2, h3, h4⟩⟩ := h
  · omega
  · refine ⟨g, cap, rfl, hb, ⟨by omega, h2, cur, hg, by simpa using h3, ?_⟩, by simpa using hl⟩
    rw [hl]; simpa using h4
theorem RowAt.ints {w : World} {g cap : Nat} {l : List Int} (h : RowAt w g 3 cap (cells1 l)) : IntsAt w (.slice (some ⟨g, 0, none⟩) l.length cap) l := by
  have h1 := h.1
  have h2 := h.2.1
  unfold maxLen at h2
  simp only [cells1, List.length_map] at h1
  refine ⟨_, cap, rfl, h1, by omega, fun i hi => ⟨g, 0, rfl, h.lt, ?_⟩⟩
  rw [Nat.zero_add]
  exact h.get (cells1_get hi)
theorem RowAt.intsT {m : Nat} {w : World} {g cap : Nat} {l : List Int} (h : RowAt w g 3 cap (cells1 l)) (hm : m ≤ g) : IntsT m w (.slice (some ⟨g, 0, none⟩) l.length cap) l := by
  refine ⟨h.ints, fun b hb => ?_⟩
  cases hb
  obtain ⟨_, _, cur, hg, _⟩ := h
  exact ⟨hm, cur, hg⟩
def cellsB (l : List Bool) : List Value := l.map Value.bool
theorem cellsB_length (l : List Bool) : (cellsB l).length = l.length * 1 := by simp [cellsB]
theorem cellsB_get {l : List Bool} {i : Nat} (h : i < l.length) : (cellsB l)[i]? = some (.bool (gi l false i)) := by simp [cellsB, gi, h]
theorem cellsB_one : ∀ (l : List Bool), ∀ u ∈ cellsB l, u.oneCell' = true := by
  intro l u hu
  obtain ⟨b, _, rfl⟩ := List.mem_map.1 hu
  rfl
theorem cells1_set (l : List Int) (i : Nat) (x : Int) : (cells1 l).set i (.int .i64 x) = cells1 (l.set i x) := by simp [cells1, List.map_set]
theorem cellsB_set (l : List Bool) (i : Nat) (x : Bool) : (cellsB l).set i (.bool x) = cellsB (l.set i x) := by simp [cellsB, List.map_set]
theorem RowAt.bools {w : World} {g cap : Nat} {l : List Bool} (h : RowAt w g 4 cap (cellsB l)) : BoolsAt w (.slice (some ⟨g, 0, none⟩) l.length cap) l := by
  have h1 := h.1
  have h2 := h.2.1
  unfold maxLen at h2
  simp only [cellsB, List.length_map] at h1
  refine ⟨_, cap, rfl, h1, by omega, fun i hi => ⟨g, 0, rfl, h.lt, ?_⟩⟩
  rw [Nat.zero_add]
  exact h.get (cellsB_get hi)
theorem BoolsAt.below {w w' : World} {v : Value} {l : List Bool} (h : BoolsAt w v l) (hb : Below w.heap.size w w') : BoolsAt w' v l := by
  obtain ⟨a, cap, hv, h1, h2, h3⟩ := h
  refine ⟨a, cap, hv, h1, h2, fun i hi => ?_⟩
  obtain ⟨b, o, e, hlt, hc⟩ := h3 i hi
  exact ⟨b, o, e, Nat.lt_of_lt_of_le hlt hb.size, (hb.cell (p := ⟨b, o + i, none⟩) hlt).trans hc⟩

theorem infoSpan : (Tryz.prog.info? 66).map (fun i => (i.zero, i.size, i.bytes)) = some (some (.agg #[.int .i64 0, .int .i64 0]), 2, 16) := by kernel_rfl
theorem bools_source {w : World} {a : Option Addr} {cap : Nat} {l : List Bool} (h : BoolsAt w (.slice a l.length cap) l) (hl : 0 < l.length) :
    ∃ b o, a = some ⟨b, o, none⟩ ∧ ∀ j u, (cellsB l)[j]? = some u → w.cell? ((⟨b, o, none⟩ : Addr).add j) = some u := by
  obtain ⟨b, o, rfl, _, _⟩ := h.cellAt hl
  refine ⟨b, o, rfl, fun j u hu => ?_⟩
  have hj : j < l.length := by have := (List.getElem?_eq_some_iff.1 hu).1; simpa [cellsB] using this
  obtain ⟨b', o', e, _, hc⟩ := h.cellAt hj
  cases e
  rw [cellsB_get hj] at hu
  rw [addr_add, hc]; exact hu
set_option maxHeartbeats 1000000 in
set_option maxRecDepth 100000 in
theorem cloneI {v : Value} {l : List Int} {w : World} (h : IntsAt w v l) (hl : l.length ≤ 1000) :
    Calls Tryz.prog 56 #[v] w fun e w' => ∃ v', e = .returned v' ∧ w'.ownsRow w.heap.size 3 1 v' l.length (cells1 l) ∧ Below w.heap.size w w' := by
  have HA := Lib.hid h
  obtain ⟨a, cap, rfl, hlc, hcm, hc⟩ := h
  obtain ⟨i0, hi0, hz0, hz1, hz2⟩ := info_parts infoInt
  have hown := World.ownsRow_made (base := w.heap.size) (e := 3) (size := 1) w #[] 0 (Nat.le_refl _) (by decide) (by simp)
  have q22 : ∀ (w : World) (a : Option Addr) (n c n' c' : Nat), (binOp .eql 22 (.slice a n c) (.slice none n' c')).run Tryz.prog w = .ok (.bool a.isNone) w := fun w a n c n' c' => Lib.run_eql_slice_nil w _ _ a n c n' c' Tryz.underlying22
  cases a with
  | none =>
    have h0 : l.length = 0 := by
      rcases Nat.eq_zero_or_pos l.length with h0 | hpos
      · exact h0
      · obtain ⟨b, o, e, _⟩ := hc 0 hpos; cases e
    have hnil : l = [] := List.eq_nil_of_length_eq_zero h0
    clear hc
    go_enter Tryz.func56, Tryz.ntmps56
    go_wp2
    go_ret
    exact ⟨_, rfl, by rw [hnil]; exact World.ownsRow_nil _ _ _ _, Below.refl _ _⟩
  | some ad =>
    have hsrc : ∀ j u, (cells1 l)[j]? = some u → w.cell? (ad.add j) = some u := by
      intro j u hu
      have hpos : 0 < l.length := by
        rcases Nat.eq_zero_or_pos l.length with h0 | hpos
        · rw [List.eq_nil_of_length_eq_zero h0] at hu; simp [cells1] at hu
        · exact hpos
      obtain ⟨b, o, e, hs⟩ := ints_source HA.out hpos
      obtain rfl := Option.some.inj e
      exact hs j u hu
    have HS := Lib.hid hsrc
    clear hc hsrc
    go_enter Tryz.func56, Tryz.ntmps56
    go_wp2_with (at_builtin; refine wpList_append_own _ rfl (.tmp 5) (.tmp 6) 22 rfl w.heap.size 3 i0 (.int .i64 0) 1 8 Tryz.underlying22 hi0 hz0 hz1 hz2 rfl (by decide) _ 0 [] rfl hown ad l.length cap (cells1 l) rfl (cells1_length l) ?_ (cells1_one l) (by unfold maxLen; omega) (by omega) (by simp) ?_; (exact fun j u hu => ((below_new (Below.refl _ w) _).cell (p := _) (block_lt_of_cell (HS.out j u hu))).trans (HS.out j u hu)); intro v' w1 hown' hgrow _; simp only [Nat.zero_add, List.nil_append] at hown')
    go_ret
    exact ⟨_, rfl, hown', below_grow (below_new (Below.refl _ w) _) hgrow (fun k' hk' => Nat.le_of_eq (Option.some.inj hk'))⟩
set_option maxHeartbeats 1000000 in
set_option maxRecDepth 100000 in
theorem cloneB {v : Value} {l : List Bool} {w : World} (h : BoolsAt w v l) (hl : l.length ≤ 1000) :
    Calls Tryz.prog 95 #[v] w fun e w' => ∃ v', e = .returned v' ∧ w'.ownsRow w.heap.size 4 1 v' l.length (cellsB l) ∧ Below w.heap.size w w' := by
  have HA := Lib.hid h
  obtain ⟨a, cap, rfl, hlc, hcm, hc⟩ := h
  obtain ⟨i0, hi0, hz0, hz1, hz2⟩ := info_parts infoBool
  have hown := World.ownsRow_made (base := w.heap.size) (e := 4) (size := 1) w #[] 0 (Nat.le_refl _) (by decide) (by simp)
  have q22 : ∀ (w : World) (a : Option Addr) (n c n' c' : Nat), (binOp .eql 86 (.slice a n c) (.slice none n' c')).run Tryz.prog w = .ok (.bool a.isNone) w := fun w a n c n' c' => Lib.run_eql_slice_nil w _ _ a n c n' c' Tryz.underlying86
  cases a with
  | none =>
    have h0 : l.length = 0 := by
      rcases Nat.eq_zero_or_pos l.length with h0 | hpos
      · exact h0
      · obtain ⟨b, o, e, _⟩ := hc 0 hpos; cases e
    have hnil : l = [] := List.eq_nil_of_length_eq_zero h0
    clear hc
    go_enter Tryz.func95, Tryz.ntmps95
    go_wp2
    go_ret
    exact ⟨_, rfl, by rw [hnil]; exact World.ownsRow_nil _ _ _ _, Below.refl _ _⟩
  | some ad =>
    have hsrc : ∀ j u, (cellsB l)[j]? = some u → w.cell? (ad.add j) = some u := by
      intro j u hu
      have hpos : 0 < l.length := by
        rcases Nat.eq_zero_or_pos l.length with h0 | hpos
        · rw [List.eq_nil_of_length_eq_zero h0] at hu; simp [cellsB] at hu
        · exact hpos
      obtain ⟨b, o, e, hs⟩ := bools_source HA.out hpos
      obtain rfl := Option.some.inj e
      exact hs j u hu
    have HS := Lib.hid hsrc
    clear hc hsrc
    go_enter Tryz.func95, Tryz.ntmps95
    go_wp2_with (at_builtin; refine wpList_append_own _ rfl (.tmp 5) (.tmp 6) 86 rfl w.heap.size 4 i0 (.bool false) 1 1 Tryz.underlying86 hi0 hz0 hz1 hz2 rfl (by decide) _ 0 [] rfl hown ad l.length cap (cellsB l) rfl (cellsB_length l) ?_ (cellsB_one l) (by unfold maxLen; omega) (by omega) (by simp) ?_; (exact fun j u hu => ((below_new (Below.refl _ w) _).cell (p := _) (block_lt_of_cell (HS.out j u hu))).trans (HS.out j u hu)); intro v' w1 hown' hgrow _; simp only [Nat.zero_add, List.nil_append] at hown')
    go_ret
    exact ⟨_, rfl, hown', below_grow (below_new (Below.refl _ w) _) hgrow (fun k' hk' => Nat.le_of_eq (Option.some.inj hk'))⟩
set_option maxHeartbeats 1000000 in
set_option maxRecDepth 100000 in
theorem cloneS {v : Value} {l : List (Int × Int)} {w : World} (h : PairsAt w v l) (hl : l.length ≤ 1000) :
    Calls Tryz.prog 57 #[v] w fun e w' => ∃ v', e = .returned v' ∧ w'.ownsRow w.heap.size 66 2 v' l.length (cells2 l) ∧ Below w.heap.size w w' := by
  have HA := Lib.hid h
  obtain ⟨a, cap, rfl, hlc, hcm, hc⟩ := h
  obtain ⟨i0, hi0, hz0, hz1, hz2⟩ := info_parts infoSpan
  have hown := World.ownsRow_made (base := w.heap.size) (e := 66) (size := 2) w #[] 0 (Nat.le_refl _) (by decide) (by simp)
  have q22 : ∀ (w : World) (a : Option Addr) (n c n' c' : Nat), (binOp .eql 23 (.slice a n c) (.slice none n' c')).run Tryz.prog w = .ok (.bool a.isNone) w := fun w a n c n' c' => Lib.run_eql_slice_nil w _ _ a n c n' c' Tryz.underlying23
  cases a with
  | none =>
    have h0 : l.length = 0 := by
      rcases Nat.eq_zero_or_pos l.length with h0 | hpos
      · exact h0
      · obtain ⟨b, o, e, _⟩ := hc 0 hpos; cases e
    have hnil : l = [] := List.eq_nil_of_length_eq_zero h0
    clear hc
    go_enter Tryz.func57, Tryz.ntmps57
    go_wp2
    go_ret
    exact ⟨_, rfl, by rw [hnil]; exact World.ownsRow_nil _ _ _ _, Below.refl _ _⟩
  | some ad =>
    have hsrc : ∀ j u, (cells2 l)[j]? = some u → w.cell? (ad.add j) = some u := by
      intro j u hu
      have hpos : 0 < l.length := by
        rcases Nat.eq_zero_or_pos l.length with h0 | hpos
        · rw [List.eq_nil_of_length_eq_zero h0] at hu; simp [cells2] at hu
        · exact hpos
      obtain ⟨b, o, e, hs⟩ := pairs_source HA.out hpos
      obtain rfl := Option.some.inj e
      exact hs j u hu
    have HS := Lib.hid hsrc
    clear hc hsrc
    go_enter Tryz.func57, Tryz.ntmps57
    go_wp2_with (at_builtin; refine wpList_append_own _ rfl (.tmp 5) (.tmp 6) 23 rfl w.heap.size 66 i0 (.agg #[.int .i64 0, .int .i64 0]) 2 16 Tryz.underlying23 hi0 hz0 hz1 hz2 rfl (by decide) _ 0 [] rfl hown ad l.length cap (cells2 l) rfl (cells2_length l) ?_ (cells2_one l) (by unfold maxLen; omega) (by omega) (by simp) ?_; (exact fun j u hu => ((below_new (Below.refl _ w) _).cell (p := _) (block_lt_of_cell (HS.out j u hu))).trans (HS.out j u hu)); intro v' w1 hown' hgrow _; simp only [Nat.zero_add, List.nil_append] at hown')
    go_ret
    exact ⟨_, rfl, hown', below_grow (below_new (Below.refl _ w) _) hgrow (fun k' hk' => Nat.le_of_eq (Option.some.inj hk'))⟩
end Go.Proofs.YthooacpfmjpdmaaGreatDoor
