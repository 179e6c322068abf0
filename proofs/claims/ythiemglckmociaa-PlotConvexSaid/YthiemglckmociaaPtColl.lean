/- What slices.Values, AppendSeq and Collect give at points: the list again, in new memory. Conditions: the list lies in memory as said. -/
import Derived.Test.YthiemglckmociaaPtChanged
import Derived.Test.YthiemglckmociaaPtRQuarter
import Derived.Test.YthiemglckmociaaPtIter
namespace Go.Proofs.Ythiemglckmociaa
open Go.RowKit Go.Shelf
attribute [local go_sem] Oper.semAt_some wide_fn

theorem Priv.cellE {B D : Nat} {w w' : World} (h : Priv B D w w') {g o : Nat} (hlt : g < w.heap.size) (hn : ¬ (B ≤ g ∧ g < B + D)) : w'.cell? ⟨g, o, none⟩ = w.cell? ⟨g, o, none⟩ := by
  simp only [World.cell?, h.block g hlt hn]
theorem own_priv {w w' : World} {base size n B D : Nat} {e : TypeId} {v : Value} {xs : List Value} (h : w.ownsRow base e size v n xs) (hp : Priv B D w w') (hb : B + D ≤ base) : w'.ownsRow base e size v n xs := by
  refine ⟨h.1, ?_⟩
  rcases h.2 with k | ⟨g, cap, cur, hv, hg, hh, rest⟩
  · exact .inl k
  · exact .inr ⟨g, cap, cur, hv, hg, (hp.block g (Array.getElem?_eq_some_iff.1 hh).1 (by omega)).trans hh, rest⟩
theorem row_keeps {w w' : World} {base size n : Nat} {e : TypeId} {v : Value} {xs : List Value} (hg : w.grownBy w' v.ownBlock) (ho : w.ownsRow base e size v n xs) : KeepsOthers w w' := by
  refine ⟨hg.size, fun k o hk hc => (hg.block k (Array.getElem?_eq_some_iff.1 hk).1 fun e1 => ?_).trans hk⟩
  obtain ⟨_, ⟨rfl, _⟩ | ⟨g, cap, cur, rfl, _, hh, _⟩⟩ := ho
  · cases e1
  · have e2 := Option.some.inj e1
    subst e2
    rw [hk] at hh
    injection hh with hh
    rw [hh] at hc; cases hc
theorem box5 {w w4 : World} {b : Nat} {ob o : Obj} {row : Option Nat} (h : w.heap[b]? = some ob) (hg : (w.alloc o).grownBy w4 row) (hr : row ≠ some b) : w4.heap[b]? = some ob := by
  have hlt := (Array.getElem?_eq_some_iff.1 h).1
  rw [hg.block b (by simp; exact Nat.lt_succ_of_lt hlt) (fun e => hr e.symm)]
  exact (Below.heap_alloc _ _ _ hlt).trans h
theorem box_of_alloc {w : World} {b : Nat} {o : Obj} (h : b = w.heap.size) : (w.alloc o).heap[b]? = some o := by subst h; exact World.alloc_heap_new w o
set_option maxHeartbeats 400000 in
theorem values_calls (a : Option Addr) (n c : Nat) (w : World) :
    Calls Try.prog 81 #[.slice a n c] w fun e w' => e = .returned (.func (.func 111) #[] #[.pointer (some ⟨w.heap.size, 0, none⟩)]) ∧ w.alloc (.cells #[.slice a n c] 22) = w' := by
  go_enter Try.func81, Try.ntmps81
  go_wp2
  go_ret
  exact ⟨rfl, rfl⟩
def PtE (l : List (Int × Int)) (_ k : Nat) (_ : World) (args : Array Value) : Prop := args = #[.agg #[.int .i64 (gi l (0, 0) k).1, .int .i64 (gi l (0, 0) k).2]]
set_option maxHeartbeats 1000000 in
theorem values_iter (b0 : Nat) (v : Value) (l : List (Int × Int)) (_ : l.length ≤ 1000000) :
    IterV Try.prog 111 #[.pointer (some ⟨b0, 0, none⟩)] (PtE l) l.length 0 (fun W => W.cell? ⟨b0, 0, none⟩ = some v ∧ PairsAt W v l) := by
  intro n ll J Jx W hR hJ hJx hY hJ0
  have hR0 := (hR 0 W hJ0).2
  obtain ⟨a, cap, rfl, hlc, hcm, _⟩ := hR0
  have HR := Lib.hid hR
  have HJ0 := Lib.hid hJ0
  have HY := Lib.hid hY
  have HJ := Lib.hid hJ
  have hc := (hR 0 W hJ0).1
  clear hR hJ hJx hY hJ0
  refine callsIn_of_wp Try.func111 rfl trivial ?_ rfl
  simp only [Try.ntmps111, List.size_toArray, List.length_cons, List.length_nil, Nat.reduceAdd, Nat.reduceSub, Array.replicate_succ, Array.replicate_zero, List.push_toArray, List.append_toArray, List.nil_append, List.cons_append]
  gi_wp2
  gi_loopw [7] (fun p wr => ∃ k : Nat, k ≤ l.length ∧ p = .int .i64 k ∧ Hid (J k wr) ∧ W.heap.size ≤ wr.heap.size) (fun p _ => l.length - (intOf p).toNat)
  case atStart => exact ⟨0, Nat.zero_le _, rfl, HJ0.out, Nat.le_refl _⟩
  case round =>
    obtain ⟨k, hk, rfl, hJk, hsz⟩ := hrel
    by_cases hlt : k < l.length
    · obtain ⟨hcb, hP⟩ := HR.out k wr hJk.out
      obtain ⟨b, o, rfl, hB, c1, c2⟩ := hP.cellAt hlt
      have HRd := Lib.hid (HY.out k (wr.alloc (.cells #[.int .i64 (gi l (0, 0) k).1, .int .i64 (gi l (0, 0) k).2] 32)) _ (by simp; omega) (HJ.out _ _ _ hsz hJk.out (Priv.of_below (below_new (Below.refl _ _) _))) hlt rfl)
      clear hP
      obtain ⟨fn, tmps, assign, body, hy, hRd0⟩ := HRd.out
      have hRd := Lib.hid hRd0
      clear hRd0
      gi_wp2
      refine ⟨fun h => (by cases h), ?_⟩
      refine hRd.out.mono ?_
      rintro e W3 ⟨_, hs3, (⟨rfl, hJ3⟩ | ⟨rfl, hJx3⟩)⟩
      · gi_wp2
        go_roundw
        case rel => exact ⟨k + 1, by omega, by go_num, hJ3, by simp at hs3; omega⟩
        case measure => simp [intOf]; omega
      · gi_wp2
        refine bodyPost_ret (results_none rfl _ _ _) rfl ?_
        exact ⟨⟨_, rfl⟩, .inr ⟨k, hJx3⟩⟩
    · obtain rfl : k = l.length := by omega
      gi_wp2
      go_end0
      exact ⟨⟨_, rfl⟩, .inl hJk.out⟩
theorem fst_succ {l : List (Int × Int)} {k : Nat} (h : k < l.length) : l.take (k + 1) = l.take k ++ [gi l (0, 0) k] := by
  rw [List.take_add_one, List.getElem?_eq_getElem h, gi_lt h]; rfl
set_option maxHeartbeats 4000000 in
set_option maxRecDepth 100000 in
theorem appendSeqP_calls (b0 : Nat) (v : Value) (l : List (Int × Int)) (w : World) (hc : w.cell? ⟨b0, 0, none⟩ = some v) (h : PairsAt w v l) (hl : l.length ≤ 1000) :
    Calls Try.prog 119 #[.slice none 0 0, .func (.func 111) #[] #[.pointer (some ⟨b0, 0, none⟩)]] w fun e w' => ∃ v', e = .returned v' ∧ w'.ownsRow w.heap.size 32 2 v' l.length (cells2 l) ∧ Below w.heap.size w w' := by
  have HT := Lib.hid h
  have hb0 : b0 < w.heap.size := block_lt_of_cell hc
  have HCL := Lib.hid hc
  obtain ⟨i0, hi0, hz0, hi1, hi2⟩ := info_parts infoPoint
  clear hc
  refine (callsIn_wide (n := 9)).1 ?_
  refine callsIn_of_wp_marks Try.func119 rfl trivial ?_ rfl
  simp only [Try.ntmps119, List.size_toArray, List.length_cons, List.length_nil, Nat.reduceAdd, Nat.reduceSub, Array.replicate_succ, Array.replicate_zero, List.push_toArray, List.append_toArray, List.nil_append, List.cons_append]
  gi_wp2
  obtain ⟨W0, hW0⟩ : ∃ W0, w.alloc (.cells #[.slice none 0 0] 22) = W0 := ⟨_, rfl⟩
  rw [hW0]
  have hB0 : Below w.heap.size w W0 := by rw [← hW0]; (repeat' (first | exact Below.refl _ _ | assumption | refine below_new ?_ _ | refine below_draw ?_ | refine below_tail (by assumption) ?_ | refine below_set ?_ (by first | omega | (simp <;> omega)) _))
  have hsz : W0.heap.size = w.heap.size + 1 := by rw [← hW0]; simp [go_sem]
  have e1 : W0.heap[w.heap.size]? = some (.cells #[.slice none 0 0] 22 (0, 0)) := by
    rw [← hW0]; exact box_of_alloc rfl
  clear hW0
  have pv : ∀ {W W' : World}, W0.heap.size ≤ W.heap.size → Priv W0.heap.size 2 W W' → Below (w.heap.size + 1) W W' := fun h hp => hp.below h |>.mono (by omega)
  refine wide_rangeFuncB (gf := 111) (lb := #[.pointer (some ⟨b0, 0, none⟩)]) (D := 0) rfl (enters_of Try.func111 (by kernel_rfl) rfl) (values_iter b0 v l (by omega)) (fun B k W args h => by rw [h]; rfl)
    (fun k W => Below w.heap.size w W ∧ k ≤ l.length ∧ W0.heap.size ≤ W.heap.size ∧ ∃ sv, W.heap[w.heap.size]? = some (.cells #[sv] 22 (0, 0)) ∧ Hid (W.ownsRow (W0.heap.size + 2) 32 2 sv (l.take k).length (cells2 (l.take k))))
    (fun _ _ _ => False)
    (fun k W ⟨hB, hk, hs, sv, f1, f2⟩ => ⟨(hB.cell (p := ⟨b0, 0, none⟩) hb0).trans HCL.out, HT.out.below hB⟩)
    (fun k W W' _ ⟨hB, hk, hs, sv, f1, f2⟩ hb => ⟨hB.trans ((pv hs hb).mono (by omega)), hk, Nat.le_trans hs hb.size, sv, ((pv hs hb).block _ (by omega)).trans f1, own_priv f2.out hb (by omega)⟩)
    (fun _ _ _ _ _ h _ => h)
    ?start
    (fun k a' W => ∃ g : Nat, a' = { tmps := #[.slice none 0 0, .func (.func 111) #[] #[.pointer (some ⟨b0, 0, none⟩)], .pointer (some ⟨w.heap.size, 0, none⟩), undef, .slice none 0 0, .pointer (some ⟨g, 0, none⟩), .func (.func 111) #[] #[.pointer (some ⟨b0, 0, none⟩)], .agg #[.int .i64 (gi l (0, 0) k).1, .int .i64 (gi l (0, 0) k).2], undef, undef, undef, undef, undef], defers := [] } ∧ W.cell? ⟨g, 0, none⟩ = some (.int .i64 (gi l (0, 0) k).1) ∧ W.cell? ⟨g, 1, none⟩ = some (.int .i64 (gi l (0, 0) k).2) ∧ W0.heap.size + 2 ≤ g ∧ g < W.heap.size)
    (fun k a' W W' _ ⟨g, ha, c0, c1, hg1, hg2⟩ hp => ⟨g, ha, (hp.cellE hg2 (by omega)).trans c0, (hp.cellE hg2 (by omega)).trans c1, hg1, Nat.lt_of_lt_of_le hg2 hp.size⟩) ?assign ?body ?done ?stop
  case start => exact ⟨hB0, Nat.zero_le _, Nat.le_refl _, _, e1, World.ownsRow_nil _ _ _ _⟩
  case stop => exact fun _ _ _ _ _ h _ => h.elim
  case assign =>
    rintro l' k W args K hsW ⟨hB, hk, hs, sv, f1, f2⟩ hm rfl hK
    gi_wp2
    have hb3 := below_new (Below.refl W.heap.size W) (.cells #[.int .i64 (gi l (0, 0) k).1, .int .i64 (gi l (0, 0) k).2] 32)
    exact hK _ _ hb3 ⟨hB.trans (hb3.mono (by omega)), hk, Nat.le_trans hs hb3.size, sv, (hb3.block _ (by omega)).trans f1, own_below f2.out hb3⟩ ⟨_, rfl, by simp [go_sem], by simp [go_sem], by omega, by simp⟩
  case body =>
    rintro l' k a' W hl' hr hsW ⟨hB, hk, hs, sv, f1, f2⟩ ⟨g, rfl, c0, c1, hg1, hg2⟩ hkn
    have HOV := f2
    have HF1 := Lib.hid f1
    have hml : (l.take k).length = k := by rw [List.length_take]; omega
    obtain ⟨ta, tc, rfl⟩ := own_slice f2.out
    have HTS := Lib.hid (fst_succ hkn)
    have hcb : W.cell? ⟨w.heap.size, 0, none⟩ = some (.slice ta k tc) := (cell_of_block f1 0).trans (by rw [hml]; rfl)
    have hlb : w.heap.size < W.heap.size := by omega
    rw [hml] at HOV HF1
    have HSW := Lib.hid hsW
    have HML := Lib.hid hml
    clear f1 f2 hsW hml
    generalize gi l (0, 0) k = x at *
    gi_wp2_with (gi_at_builtin; refine wpListIn_append_own _ rfl _ _ 22 rfl (W0.heap.size + 2) 32 i0 (.agg #[.int .i64 0, .int .i64 0]) 2 16 Try.underlying22 hi0 hz0 hi1 hi2 rfl (by decide) _ _ _ rfl (HOV.out.alloc _) ⟨W.heap.size, 0, none⟩ 1 1 (cells2 [x]) rfl rfl (app_src2 _ _ _) (cells2_one _) (by unfold maxLen; omega) (by omega) (by have := HSW.out; simp; omega) ?_; intro v' w4 hown4 hgrow _; obtain ⟨va', vc', rfl⟩ := own_slice hown4; have HX4 : Hid (w4.heap[w.heap.size]? = some (.cells #[.slice ta k tc] 22 (0, 0))) := box5 HF1.out hgrow (ne_old HOV.out (by omega)); have hcb4 : w4.cell? ⟨w.heap.size, 0, none⟩ = some (.slice ta k tc) := (cell_of_block HX4.out 0).trans rfl; have hfb4 : w4.frozen? ⟨w.heap.size, 0, none⟩ = false := frozen_of_block HX4.out 0)
    have hKO : KeepsOthers W w4 := (keeps_of_below (by (repeat' (first | exact Below.refl _ _ | assumption | refine below_new ?_ _ | refine below_draw ?_ | refine below_tail (by assumption) ?_ | refine below_set ?_ (by first | omega | (simp <;> omega)) _)) : Below W.heap.size W (W.alloc (.cells #[.int .i64 x.1, .int .i64 x.2] 32)))).trans (row_keeps hgrow (HOV.out.alloc _))
    have hszw := HSW.out
    refine ⟨hKO.trans (KeepsOthers.setCell _ _ _), fun j h1 h2 => by omega, ?_, by omega, ?_, _, (block_set HX4.out 0 _).trans (by simp; rfl), ?_⟩
    · exact below_set ((hB.alloc hB.size _).grown hgrow (by simp; omega) (fun j hj => by have := (HOV.out.lt j hj).1; omega)) (Nat.le_refl _) _
    · have := hgrow.size; simp at this ⊢; omega
    · unfold Hid
      rw [HTS.out]
      have ho := own_more2 (l := l.take k) hown4 (by rw [HML.out])
      rw [List.length_append, HML.out] at ho ⊢
      exact own_priv ho (Priv.set (B := w.heap.size) (D := 1) _ _ _ (Nat.le_refl _) (by show w.heap.size < w.heap.size + 1; omega)) (by omega)
  case done =>
    rintro D W hD hD2 hsW ⟨hB, hk, hs, sv, f1, f2⟩ hK
    rw [List.take_length] at f2
    have hcb : W.cell? ⟨w.heap.size, 0, none⟩ = some sv := (cell_of_block f1 0).trans rfl
    gi_wp2
    refine ⟨by simp, .inl ⟨_, _, rfl, run_takeDeferred hK, ?_⟩⟩
    have hP := Priv.put (B := W0.heap.size) (D := 2) W D (.deferred none) hD hD2
    refine ⟨sv, by simp [results, Try.f119, go_sem], _, rfl, own_base (own_priv f2.out hP (Nat.le_refl _)) (by omega), hB.trans ((hP.below hs).mono (by omega))⟩
set_option maxHeartbeats 1000000 in
theorem collectP_calls (b0 : Nat) (v : Value) (l : List (Int × Int)) (w : World) (hc : w.cell? ⟨b0, 0, none⟩ = some v) (h : PairsAt w v l) (hl : l.length ≤ 1000) :
    Calls Try.prog 109 #[.func (.func 111) #[] #[.pointer (some ⟨b0, 0, none⟩)]] w fun e w' => ∃ v', e = .returned v' ∧ w'.ownsRow w.heap.size 32 2 v' l.length (cells2 l) ∧ Below w.heap.size w w' := by
  have H := Lib.hid (appendSeqP_calls b0 v l w hc h hl)
  clear hc h
  go_enter Try.func109, Try.ntmps109
  go_wp2_with (go_at_call 119; refine H.out.mono ?_; rintro e w1 ⟨v1, rfl, hr1, hb1⟩; have HR := Lib.hid hr1; clear hr1)
  refine bodyPost_ret (v := v1) (by simp [results, Try.f109, go_sem]) rfl ?_
  exact ⟨_, rfl, HR.out, by (repeat' (first | exact Below.refl _ _ | assumption | refine below_new ?_ _ | refine below_draw ?_ | refine below_tail (by assumption) ?_ | refine below_set ?_ (by first | omega | (simp <;> omega)) _))⟩
end Go.Proofs.Ythiemglckmociaa
