/- What number of the document gives; a row of zeros; triangles that a call reads. Conditions: the lists lie in memory as said. -/
import Derived.Test.YthiemglckmociaaPtTriMW
import Derived.Test.YthiemglckmociaaPtTriA
import Derived.Test.YthiemglckmociaaPtChanged
import Derived.Test.YthiemglckmociaaPtRNormal2
import Derived.Test.YthiemglckmociaaPtRCanA
namespace Go.Proofs.Ythiemglckmociaa
open Go.RowKit
attribute [local go_sem high] eql_pt neq_pt eqg_pt

theorem pt_neq {x y : Int × Int} (h : x ≠ y) : (((x.1, x.2) : Int × Int) == (y.1, y.2)) = false := by
  have : ¬ ((x.1, x.2) : Int × Int) = (y.1, y.2) := fun e => h (by simpa [Prod.ext_iff] using e)
  simpa using this
set_option maxHeartbeats 2000000 in
theorem number_calls (v : Value) (l : List (Int × Int)) (x : Int × Int) (i : Nat) (w : World) (h : PairsAt w v l) (hi : i < l.length) (_ : l.length ≤ 1000) (hx : gi l (0, 0) i = x) (hq : ∀ j, j < i → gi l (0, 0) j ≠ x) :
    Gives Try.prog 99 #[v, .agg #[.int .i64 x.1, .int .i64 x.2]] w (.int .i64 i) := by
  have HP := Lib.hid h
  obtain ⟨sa, cap, rfl, hlc, hcm, -⟩ := h
  have HX := Lib.hid hx
  have HQ := Lib.hid hq
  clear hx hq
  unfold Gives
  go_enter Try.func99, Try.ntmps99
  go_wp2_with fail
  obtain ⟨W0, hW0⟩ : ∃ W0, w.alloc (.cells #[.int .i64 x.1, .int .i64 x.2] 32) = W0 := ⟨_, rfl⟩
  rw [hW0]
  have hB0 : Below w.heap.size w W0 := by rw [← hW0]; (repeat' (first | exact Below.refl _ _ | assumption | refine below_new ?_ _ | refine below_draw ?_ | refine below_tail (by assumption) ?_ | refine below_set ?_ (by first | omega | (simp <;> omega)) _))
  have e0 : W0.cell? ⟨w.heap.size, 0, none⟩ = some (.int .i64 x.1) := by rw [← hW0]; simp [go_sem]
  have e1 : W0.cell? ⟨w.heap.size, 1, none⟩ = some (.int .i64 x.2) := by rw [← hW0]; simp [go_sem]
  have hs0 : w.heap.size < W0.heap.size := by rw [← hW0]; simp
  clear hW0
  go_loopw [5] (fun a wr => ∃ k : Nat, k ≤ i ∧ a = .int .i64 k ∧ Below W0.heap.size W0 wr) (fun a _ => i + 1 - (intOf a).toNat)
  case atStart => exact ⟨0, Nat.zero_le _, rfl, Below.refl _ _⟩
  case round =>
    obtain ⟨k, hk, rfl, hbw⟩ := hrel
    have hkl : k < l.length := by omega
    have hg : decide ((k : Int) < (l.length : Int)) = true := decide_eq_true (by omega)
    have hbw0 : Below w.heap.size w wr := hB0.trans (hbw.mono (by omega))
    obtain ⟨b, o, rfl, hB, g0, g1⟩ := HP.out.cellB hbw0 hkl
    have c0 := (hbw.cell (p := ⟨w.heap.size, 0, none⟩) hs0).trans e0
    have c1 := (hbw.cell (p := ⟨w.heap.size, 1, none⟩) hs0).trans e1
    have q0 := fun d os => cell_regrown g0 d os
    have q1 := fun d os => cell_regrown g1 d os
    have q2 := fun d os => cell_regrown c0 d os
    have q3 := fun d os => cell_regrown c1 d os
    have HB := Lib.hid hbw
    have HB0 := Lib.hid hbw0
    clear c0 c1 g0 g1 e0 e1 hbw hbw0 hB0
    by_cases hlt : k < i
    · have hne : (((gi l (0, 0) k).1, (gi l (0, 0) k).2) == (x.1, x.2)) = false := pt_neq (HQ.out k hlt)
      go_wp2_with fail
      refine region_q mixed (by kernel_rfl) ?_
      repeat (go_big_quiet_step (fail))
      refine wpQuiet_nil ?_
      intro wq hbq
      clear q0 q1 q2 q3
      go_wp2_with fail
      go_roundw
      case rel => exact ⟨k + 1, by omega, by go_num, HB.out.trans (hbq.mono (by have := HB.out.size; omega))⟩
      case measure => simp [intOf]; omega
    · obtain rfl : k = i := by omega
      have hne : (((gi l (0, 0) k).1, (gi l (0, 0) k).2) == (x.1, x.2)) = true := by rw [HX.out]; simp
      go_wp2_with fail
      refine region_q mixed (by kernel_rfl) ?_
      repeat (go_big_quiet_step (fail))
      refine wpQuiet_nil ?_
      intro wq hbq
      go_wp2_with fail
      go_ret
      exact ⟨rfl, HB0.out.trans (hbq.mono (by have := HB0.out.size; omega))⟩
theorem infoInt : (Try.prog.info? 3).map (fun i => (i.zero, i.size, i.bytes)) = some (some (.int .i64 0), 1, 8) := by kernel_rfl
theorem made_cells (z : Value) (n : Nat) (h : z.cells = #[z]) : madeCells z.cells (n * 1) = (List.replicate n z).toArray := by
  unfold madeCells
  rw [h]
  apply Array.ext'
  simp only [Nat.mul_one, Array.toList_map, Array.toList_range]
  refine List.ext_getElem (by simp) fun i _ _ => ?_
  simp [Nat.mod_one]
theorem mk_ints (w : World) (n : Nat) (hn : n ≤ 100) : (Instr.makeSlice 82 (.int .i64 (n : Int)) (.int .i64 (n : Int))).run Try.prog w = .ok (.slice (some ⟨w.heap.size, 0, none⟩) n n) (w.alloc (.cells (cells1 (List.replicate n 0)).toArray 3)) := by
  obtain ⟨i0, hi0, hz0, hi1, hi2⟩ := info_parts infoInt
  have := run_make (P := Try.prog) w 82 3 i0 _ Try.underlying82 hi0 hz0 .i64 .i64 n n (by omega) (by omega) (by rw [hi2]; omega) (by omega)
  rw [this, hi1]
  simp only [Int.toNat_natCast]
  rw [made_cells _ _ rfl]
  simp [cells1]
theorem e3_le (t : Pt × Pt × Pt) (x y : Pt) : e3 t x y ≤ 3 := by
  have h : ∀ (p : Prop) [Decidable p], (if p then 1 else 0 : Nat) ≤ 1 := fun p _ => by split <;> omega
  unfold e3
  have h1 := h (t.1 = x ∧ t.2.1 = y)
  have h2 := h (t.2.1 = x ∧ t.2.2 = y)
  have h3 := h (t.2.2 = x ∧ t.1 = y)
  omega
theorem ed_le (x y : Pt) : ∀ T : List (Pt × Pt × Pt), ed T x y ≤ 3 * T.length
  | [] => Nat.zero_le _
  | t :: T => by
    have := e3_le t x y
    have := ed_le x y T
    rw [List.length_cons]
    unfold ed; omega
theorem eK_le (t : List (Int × Int)) (x y : Int × Int) : ∀ k, eK t x y k ≤ k
  | 0 => Nat.le_refl _
  | k + 1 => by have := eK_le t x y k; unfold eK; split <;> omega
theorem edK_le (T : List (List (Int × Int))) (q : List (Int × Int)) (i k a b : Nat) : edK T q i k a b ≤ 3 * T.length + k := by
  unfold edK
  have h1 := ed_le (gi q (0, 0) a) (gi q (0, 0) b) ((T.take i).map tri3)
  have h2 := eK_le (T.getD i []) (gi q (0, 0) a) (gi q (0, 0) b) k
  rw [List.length_map, List.length_take] at h1
  omega
/-- A table of numbers in a block of its own. -/
def TabBox (w : World) (g n : Nat) (f : Nat → Nat → Nat) : Prop := w.heap[g]? = some (.cells (cells1 (tabF n f)).toArray 3 (0, 0))
theorem TabBox.lt {w : World} {g n : Nat} {f : Nat → Nat → Nat} (h : TabBox w g n f) : g < w.heap.size := (Array.getElem?_eq_some_iff.1 h).1
theorem TabBox.below {w w' : World} {g n : Nat} {f : Nat → Nat → Nat} (h : TabBox w g n f) (hb : Below w.heap.size w w') : TabBox w' g n f := (hb.block g h.lt).trans h
theorem TabBox.cell {w : World} {g n a b : Nat} {f : Nat → Nat → Nat} (h : TabBox w g n f) (ha : a < n) (hb : b < n) : w.cell? ⟨g, a * n + b, none⟩ = some (.int .i64 (f a b : Nat)) ∧ w.frozen? ⟨g, a * n + b, none⟩ = false := by
  refine ⟨?_, frozen_of_block h _⟩
  rw [cell_of_block h]
  have h1 := (tab_at ha hb).1
  have := cells1_get (l := tabF n f) (i := a * n + b) (by rw [tab_length]; exact h1)
  rw [tab_get f ha hb] at this
  simpa using this
theorem TabBox.set {w : World} {g n a b : Nat} {f f' : Nat → Nat → Nat} (h : TabBox w g n f) (hf : (tabF n f).set (a * n + b) ((f a b : Nat) + 1 : Int) = tabF n f') : TabBox (w.setCell ⟨g, a * n + b, none⟩ (.int .i64 ((f a b : Nat) + 1 : Int))) g n f' := by
  have h1 := block_set h (a * n + b) (.int .i64 ((f a b : Nat) + 1 : Int))
  unfold TabBox
  rw [h1, ← hf]
  congr 2
  apply Array.ext'
  simp [cells1, List.map_set]
theorem TabBox.congr {w : World} {g n : Nat} {f f' : Nat → Nat → Nat} (h : TabBox w g n f) (hf : tabF n f = tabF n f') : TabBox w g n f' := by unfold TabBox at h ⊢; rw [← hf]; exact h
end Go.Proofs.Ythiemglckmociaa
/- What AreTriangles of the document gives of the triangles into which a plot is split. Conditions: the lists lie in memory as said. -/
namespace Go.Proofs.Ythiemglckmociaa
open Go.RowKit

theorem number_is {v : Value} {l : List (Int × Int)} {x : Int × Int} {i n : Nat} (w : World) (h : PairsAt w v l) (hn : l.length = n) (hi : i < n) (h10 : n ≤ 10) (hx : gi l (0, 0) i = x) (hq : ∀ a b, a < n → b < n → gi l (0, 0) a = gi l (0, 0) b → a = b) :
    Gives Try.prog 99 #[v, .agg #[.int .i64 x.1, .int .i64 x.2]] w (.int .i64 i) :=
  number_calls v l x i w h (by omega) (by omega) hx fun j hj e => by
    have := hq j i (by omega) hi (e.trans hx.symm)
    omega
theorem third (k : Nat) (h : k < 3) : ∃ m : Nat, m < 3 ∧ ((k : Int) + 1).tmod 3 = (m : Int) ∧ m = (k + 1) % 3 := by
  refine ⟨(k + 1) % 3, Nat.mod_lt _ (by decide), ?_, rfl⟩
  rw [Int.tmod_eq_emod_of_nonneg (by omega)]; omega
theorem cor_third {t : List (Int × Int)} (h : t.length = 3) {k m : Nat} (hm : m = (k + 1) % 3) (hk : k < 3) : cor t k = gi t (0, 0) k ∧ cor t (k + 1) = gi t (0, 0) m := by
  refine ⟨cor_lt (by omega), ?_⟩
  rw [← cor_lt (show m < t.length by omega)]
  exact cor_same (by rw [h, hm, Nat.mod_mod])
theorem next_at {n : Nat} (a : Nat) (ha : a < n) (h10 : n ≤ 10) : ∃ m : Nat, m < n ∧ ((a : Int) + 1).tmod (n : Int) = (m : Int) ∧ m = (a + 1) % n := by
  refine ⟨(a + 1) % n, Nat.mod_lt _ (by omega), ?_, rfl⟩
  rw [Int.tmod_eq_emod_of_nonneg (by omega), Int.natCast_emod]; rfl
theorem at_place {n x y : Nat} (hx : x < n) (hy : y < n) (h10 : n ≤ 10) : ∃ m xn : Nat, (x : Int) * (n : Int) = (xn : Int) ∧ (xn : Int) + (y : Int) = (m : Int) ∧ m < n * n ∧ m = x * n + y ∧ xn ≤ 100 := by
  have h1 := (tab_at hx hy).1
  have h2 : n * n ≤ 100 := Nat.le_trans (Nat.mul_le_mul h10 h10) (by decide)
  exact ⟨x * n + y, x * n, by rw [Int.natCast_mul], by rw [Int.natCast_add], h1, rfl, by omega⟩
set_option maxHeartbeats 8000000 in
set_option maxRecDepth 100000 in
theorem areTriangles_calls (v v2 : Value) (l : List (Int × Int)) (T : List (List (Int × Int))) (w : World) (h : PairsAt w v l) (h2 : TrisAt w v2 T) (he : triE l = 0) (hv : Valid l) (nc : NoLine (cor l) l.length) (t : TriOK l T) (hTn : T.length + 2 = l.length) :
    Gives Try.prog 51 #[v, v2] w (.bool true) := by
  have HP := Lib.hid h
  have HT := Lib.hid h2
  have HE := Lib.hid he
  have HV := Lib.hid hv
  have HNC := Lib.hid nc
  have HTO := Lib.hid t
  have h3 := hv.lo
  have h10 := hv.hi
  obtain ⟨sa, cap, rfl, hlc, hcm, -⟩ := h
  obtain ⟨ta, tcap, rfl, htc, htm, -⟩ := h2
  obtain ⟨n1, n2, n3⟩ := norm_valid hv
  obtain ⟨f1, f2, f3⟩ := norm_facts hv
  obtain ⟨q, hq⟩ : ∃ q, normF l = q := ⟨_, rfl⟩
  have HQ := Lib.hid hq
  have HAC : Hid (∀ i k, i < T.length → ∃ x, x < l.length ∧ gi q (0, 0) x = cor (T.getD i []) k) := fun i k hi => by rw [← hq]; exact are_corner hv nc t hi k
  have HAF : Hid (∀ a b, a < l.length → b < l.length → (b = (a + 1) % l.length → edK T q T.length 0 a b = 1 ∧ edK T q T.length 0 b a = 0) ∧
    (b ≠ (a + 1) % l.length → a ≠ (b + 1) % l.length → edK T q T.length 0 a b = edK T q T.length 0 b a ∧ edK T q T.length 0 a b ≤ 1 ∧ (edK T q T.length 0 a b = 1 → splitB q a b = true))) := fun a b ha hb => by rw [← hq]; exact are_facts hv nc t ha hb
  have HEA : Hid (∀ u ∈ T, 0 < areaK u u.length) := fun u hu => (are_each hv nc t hu).2.1
  have HEV : Hid (∀ u ∈ T, u.length = 3 ∧ Valid u) := t.each
  rw [hq] at n1 n3 f3
  have HQV := Lib.hid n1
  have HQI := Lib.hid f3
  have HQL := Lib.hid n3
  clear hq n1 n2 n3 f1 f2 f3 hv nc t he
  obtain ⟨n, hn⟩ : ∃ n, l.length = n := ⟨_, rfl⟩
  have HN := Lib.hid hn
  rw [hn] at hlc h3 h10 hTn HAC HAF HQI HQL HP ⊢
  clear hn
  obtain ⟨nn, hnn⟩ : ∃ nn : Nat, nn = n * n := ⟨_, rfl⟩
  have hnn1 : (n : Int) * (n : Int) = (nn : Int) := by rw [hnn, Int.natCast_mul]
  have hnn2 : nn ≤ 100 := by rw [hnn]; exact Nat.le_trans (Nat.mul_le_mul h10 h10) (by decide)
  have HNN := Lib.hid hnn
  have hmi := fun w => mk_ints w nn hnn2
  have x0 : ((T.length : Int) != (n : Int) - 2) = false := by
    have : (T.length : Int) = (n : Int) - 2 := by omega
    simp [this]
  have ht8 : T.length ≤ 8 := by omega
  clear hnn
  unfold Gives
  go_enter Try.func51, Try.ntmps51
  go_wp2_with (first
    | (go_at_call 38; (with_reducible refine (triErr_is _ (HP.out.below (by (repeat' (first | exact Below.refl _ _ | assumption | refine below_new ?_ _ | refine below_draw ?_ | refine below_tail (by assumption) ?_ | refine below_set ?_ (by first | omega | (simp <;> omega)) _)))) HE.out).use ?_); intro w1 hb1 hz1 hc1 hf1; clear hc1 hf1)
    | (go_at_call 94; (with_reducible refine (rnormal_calls _ l _ (HP.out.below (by (repeat' (first | exact Below.refl _ _ | assumption | refine below_new ?_ _ | refine below_draw ?_ | refine below_tail (by assumption) ?_ | refine below_set ?_ (by first | omega | (simp <;> omega)) _)))) HV.out).mono ?_); rintro e w3 ⟨v3, rfl, hown3, hb3⟩; rw [HQ.out, HQL.out] at hown3; obtain ⟨qa, qc, rfl⟩ := own_slice hown3; have HPQ := Lib.hid (own_pairs (l := q) (HQL.out.symm ▸ hown3)); clear hown3))
  obtain ⟨gc, hgc⟩ : ∃ gc, gc = w3.heap.size := ⟨_, rfl⟩
  rw [← hgc]
  obtain ⟨W0, hW0⟩ : ∃ W0, w3.alloc (.cells (cells1 (List.replicate nn 0)).toArray 3) = W0 := ⟨_, rfl⟩
  rw [hW0]
  have hB0 : Below w.heap.size w W0 := by rw [← hW0]; (repeat' (first | exact Below.refl _ _ | assumption | refine below_new ?_ _ | refine below_draw ?_ | refine below_tail (by assumption) ?_ | refine below_set ?_ (by first | omega | (simp <;> omega)) _))
  have hBQ : Below gc w3 W0 := by rw [hgc, ← hW0]; (repeat' (first | exact Below.refl _ _ | assumption | refine below_new ?_ _ | refine below_draw ?_ | refine below_tail (by assumption) ?_ | refine below_set ?_ (by first | omega | (simp <;> omega)) _))
  have htab : TabBox W0 gc n (edK T q 0 0) := by
    unfold TabBox
    rw [tab_zero, ← HNN.out, ← hW0, hgc]
    exact World.alloc_heap_new _ _
  have hwg : w.heap.size ≤ gc := by rw [hgc]; exact (show Below w.heap.size w w3 by (repeat' (first | exact Below.refl _ _ | assumption | refine below_new ?_ _ | refine below_draw ?_ | refine below_tail (by assumption) ?_ | refine below_set ?_ (by first | omega | (simp <;> omega)) _))).size
  have HPQ' : Hid (∀ W, Below gc w3 W → PairsAt W (.slice qa n qc) q) := fun W hb => by rw [hgc] at hb; have := HPQ.out.below hb; rw [HQL.out] at this; exact this
  clear hW0 hgc hmi hb1 hz1 hb3 HPQ
  have hn0 : ¬ n = 0 := by omega
  go_loopw [8] (fun i wr => ∃ k : Nat, k ≤ T.length ∧ i = .int .i64 k ∧ TabBox wr gc n (edK T q k 0) ∧ Below w.heap.size w wr ∧ Below gc w3 wr) (fun i _ => T.length - (intOf i).toNat)
  case atStart => exact ⟨0, Nat.zero_le _, rfl, htab, hB0, hBQ⟩
  case round =>
    clear htab hB0 hBQ
    obtain ⟨k, hk, rfl, htb, hbw, hbq⟩ := hrel
    by_cases hlt : k < T.length
    · have hg : decide ((k : Int) < (T.length : Int)) = true := decide_eq_true (by omega)
      obtain ⟨a0, c0, e0, -, -, hcs⟩ := HT.out
      obtain ⟨tb, u, rfl, htb2, hcu, hpu⟩ := hcs k hlt
      cases e0
      have ek : T.getD k [] = T[k] := by simp [hlt]
      have hm := List.getElem_mem hlt
      have ht3 : (T.getD k []).length = 3 := by rw [ek]; exact (HEV.out _ hm).1
      have HTV : Hid (Valid (T.getD k [])) := by unfold Hid; rw [ek]; exact (HEV.out _ hm).2
      have hta : 0 < areaK (T.getD k []) (T.getD k []).length := by rw [ek]; exact HEA.out _ hm
      have HNEX : Hid (∀ a b, edK T q k 3 a b = edK T q (k + 1) 0 a b) := fun a b => edK_next hlt ht3
      have HAK : Hid (∀ m, ∃ x, x < n ∧ gi q (0, 0) x = cor (T.getD k []) m) := fun m => HAC.out k m hlt
      have HSIDE : Hid (∀ m x y, x < n → y < n → gi q (0, 0) x = cor (T.getD k []) m → gi q (0, 0) y = cor (T.getD k []) (m + 1) → (tabF n (edK T q k m)).set (x * n + y) ((edK T q k m x y : Nat) + 1 : Int) = tabF n (edK T q k (m + 1))) := fun m x y hx hy h1 h2 => edK_side HQI.out hx hy h1 h2
      have HEL : Hid (∀ m x y, edK T q k m x y ≤ 3 * T.length + m) := fun m x y => edK_le T q k m x y
      have HPU := Lib.hid hpu
      obtain ⟨t, ht⟩ : ∃ t, T.getD k [] = t := ⟨_, rfl⟩
      rw [ht] at ht3 HTV hta HAK HSIDE HPU
      obtain ⟨ua, uc, rfl, huc, hum, -⟩ := id HPU.out
      rw [ht3] at huc HPU
      obtain ⟨s, hs⟩ : ∃ s, areaK t t.length = s := ⟨_, rfl⟩
      have HS := Lib.hid hs
      rw [hs] at hta
      have x1 : decide (s ≤ 0) = false := decide_eq_false (by omega)
      have HL3 := Lib.hid ht3
      have hcu' := (hbw.cell (p := ⟨tb, k, none⟩) htb2).trans hcu
      rw [ht3] at hcu hcu'
      clear hcs hpu ek hm ht hs ht3
      have HCU := Lib.hid hcu
      clear hcu
      go_wp2_with (go_at_call 61; (with_reducible refine (rtwice_is _ (HPU.out.below (by (repeat' (first | exact Below.refl _ _ | assumption | refine below_new ?_ _ | refine below_draw ?_ | refine below_tail (by assumption) ?_ | refine below_set ?_ (by first | omega | (simp <;> omega)) _)))) HTV.out HS.out).use ?_); intro w5 hb5 hz5 hc5 hf5; clear hc5 hf5)
      have tab5 : TabBox w5 gc n (edK T q k 0) := htb.below (by (repeat' (first | exact Below.refl _ _ | assumption | refine below_new ?_ _ | refine below_draw ?_ | refine below_tail (by assumption) ?_ | refine below_set ?_ (by first | omega | (simp <;> omega)) _)))
      have hgs : gc ≤ wr.heap.size := Nat.le_of_lt htb.lt
      have hq5 : Below gc w3 w5 := hbq.trans (hb5.mono hgs)
      have hB5 : Below w.heap.size w w5 := by (repeat' (first | exact Below.refl _ _ | assumption | refine below_new ?_ _ | refine below_draw ?_ | refine below_tail (by assumption) ?_ | refine below_set ?_ (by first | omega | (simp <;> omega)) _))
      have HBW := Lib.hid hbw
      clear htb hbw hbq hcu' hb5 hz5
      go_loopw [9] (fun i wr => ∃ m : Nat, m ≤ 3 ∧ i = .int .i64 m ∧ TabBox wr gc n (edK T q k m) ∧ Below w.heap.size w wr ∧ Below gc w3 wr) (fun i _ => 3 - (intOf i).toNat)
      case atStart => exact ⟨0, Nat.zero_le _, rfl, tab5, hB5, hq5⟩
      case round =>
        clear tab5 hB5 hq5
        obtain ⟨m, hm, rfl, htb, hbw2, hbq2⟩ := hrel
        by_cases hlt2 : m < 3
        · have hg2 : decide ((m : Int) < 3) = true := decide_eq_true (by omega)
          obtain ⟨m1, hm1, hr, hme⟩ := third m hlt2
          obtain ⟨ct1, ct2⟩ := cor_third HL3.out hme hlt2
          obtain ⟨x, hx, hxe⟩ := HAK.out m
          obtain ⟨y, hy, hye⟩ := HAK.out (m + 1)
          have HSD := Lib.hid (HSIDE.out m x y hx hy hxe hye)
          rw [ct1] at hxe
          rw [ct2] at hye
          have HXE := Lib.hid hxe
          have HYE := Lib.hid hye
          obtain ⟨ub, uo, rfl, hub, a0, a1⟩ := HPU.out.cellB hbw2 (m := m) (by rw [HL3.out]; exact hlt2)
          obtain ⟨b1, o1, e1, _, a2, a3⟩ := HPU.out.cellB hbw2 (m := m1) (by rw [HL3.out]; exact hm1)
          cases e1
          have a4 := (hbw2.cell (p := ⟨tb, k, none⟩) htb2).trans HCU.out
          have q0 := fun d os => cell_regrown a0 d os
          have q1 := fun d os => cell_regrown a1 d os
          have q2 := fun d os => cell_regrown a2 d os
          have q3 := fun d os => cell_regrown a3 d os
          have q4 := fun d os => cell_regrown a4 d os
          have hw1 : IntKind.i64.wrap ((m : Int) + 1) = (m : Int) + 1 := IntWalk.i64_in _ (by omega)
          have HPQW := Lib.hid (HPQ'.out _ hbq2)
          obtain ⟨mm, xn, hxn, hxy, hmm, hmme, hxn1⟩ := at_place hx hy h10
          obtain ⟨f1, f2⟩ := htb.cell hx hy
          have hE := HEL.out m x y
          have HST : Hid (∀ W, TabBox W gc n (edK T q k m) → TabBox (W.setCell ⟨gc, mm, none⟩ (.int .i64 ((edK T q k m x y : Nat) + 1 : Int))) gc n (edK T q k (m + 1))) := fun W hW => by rw [hmme]; exact hW.set HSD.out
          rw [← hmme] at f1 f2
          obtain ⟨E, hEE⟩ : ∃ E : Nat, edK T q k m x y = E := ⟨_, rfl⟩
          rw [hEE] at f1 hE HST
          have hgl := htb.lt
          have HTB := Lib.hid htb
          have HF1 := Lib.hid f1
          have HF2 := Lib.hid f2
          have y1 : decide ((x : Int) < 0) = false := decide_eq_false (by omega)
          have y2 : decide ((y : Int) < 0) = false := decide_eq_false (by omega)
          have hmn : mm < nn := by rw [HNN.out]; exact hmm
          have hw2 : IntKind.i64.wrap ((x : Int) * (n : Int)) = (xn : Int) := by rw [hxn]; exact IntWalk.i64_in _ (by omega)
          generalize gi t (0, 0) m = px at *
          generalize gi t (0, 0) m1 = py at *
          clear hxe hye ct1 ct2 hme a0 a1 a2 a3 a4 hEE f1 f2 htb hmme hmm
          go_wp2_with fail
          refine region_q mixed (by kernel_rfl) ?_
          repeat (go_big_quiet_step (first | (go_at_call 99; exact Calls.regrown_of (number_is _ (HPQW.out.below (below_regrown _ _ _)) HQL.out hx h10 HXE.out HQI.out)) | (go_at_call 99; exact Calls.regrown_of (number_is _ (HPQW.out.below (below_regrown _ _ _)) HQL.out hy h10 HYE.out HQI.out))))
          refine wpQuiet_nil ?_
          intro wq hbq3
          clear q0 q1 q2 q3 q4
          have g1 := (hbq3.cell (p := ⟨gc, mm, none⟩) hgl).trans HF1.out
          have g2 := (hbq3.frozen (p := ⟨gc, mm, none⟩) hgl).trans HF2.out
          go_wp2_with fail
          go_roundw
          case rel => exact ⟨m + 1, by omega, by go_num, HST.out _ (HTB.out.below hbq3), below_set (hbw2.trans (hbq3.mono hbw2.size)) (by dsimp only; omega) _, (hbq2.trans (hbq3.mono (Nat.le_of_lt hgl))).setCell (by dsimp only; omega) _⟩
          case measure => simp [intOf]; omega
        · have hg2 : decide ((m : Int) < 3) = false := decide_eq_false (by omega)
          obtain rfl : m = 3 := by omega
          go_wp2_with fail
          go_roundw
          case rel => exact ⟨k + 1, by omega, by go_num, htb.congr (tab_ext fun a b _ _ => HNEX.out a b), hbw2, hbq2⟩
          case measure => simp [intOf]; omega
    · have hg : decide ((k : Int) < (T.length : Int)) = false := decide_eq_false (by omega)
      obtain rfl : k = T.length := by omega
      go_wp2_with fail
      go_loopw [12] (fun i wr => ∃ a : Nat, a ≤ n ∧ i = .int .i64 a ∧ TabBox wr gc n (edK T q T.length 0) ∧ Below w.heap.size w wr ∧ Below gc w3 wr) (fun i _ => n - (intOf i).toNat)
      case atStart => exact ⟨0, Nat.zero_le _, rfl, htb, hbw, hbq⟩
      case round =>
        clear htb hbw hbq
        obtain ⟨a, ha, rfl, htb, hbw, hbq⟩ := hrel
        by_cases hlta : a < n
        · have hga : decide ((a : Int) < (n : Int)) = true := decide_eq_true (by omega)
          go_wp2_with fail
          go_loopw [13] (fun i wr => ∃ b : Nat, b ≤ n ∧ i = .int .i64 b ∧ TabBox wr gc n (edK T q T.length 0) ∧ Below w.heap.size w wr ∧ Below gc w3 wr) (fun i _ => n - (intOf i).toNat)
          case atStart => exact ⟨0, Nat.zero_le _, rfl, htb, hbw, hbq⟩
          case round =>
            clear htb hbw hbq
            obtain ⟨b, hb, rfl, htb, hbw, hbq⟩ := hrel
            by_cases hltb : b < n
            · have hgb : decide ((b : Int) < (n : Int)) = true := decide_eq_true (by omega)
              obtain ⟨a1, ha1, hra, hae⟩ := next_at a hlta h10
              obtain ⟨b1, hb1, hrb, hbe⟩ := next_at b hltb h10
              obtain ⟨F1, F2⟩ := HAF.out a b hlta hltb
              rw [← hae] at F1 F2
              rw [← hbe] at F2
              have hwa : IntKind.i64.wrap ((a : Int) + 1) = (a : Int) + 1 := IntWalk.i64_in _ (by omega)
              have hwb : IntKind.i64.wrap ((b : Int) + 1) = (b : Int) + 1 := IntWalk.i64_in _ (by omega)
              obtain ⟨p1, s1, hs1, ht1, hp1, he1, hl1⟩ := at_place hlta hltb h10
              obtain ⟨p2, s2, hs2, ht2, hp2, he2, hl2⟩ := at_place hltb hlta h10
              obtain ⟨f1, -⟩ := htb.cell hlta hltb
              obtain ⟨f2, -⟩ := htb.cell hltb hlta
              rw [← he1] at f1
              rw [← he2] at f2
              obtain ⟨E1, hE1⟩ : ∃ E : Nat, edK T q T.length 0 a b = E := ⟨_, rfl⟩
              obtain ⟨E2, hE2⟩ : ∃ E : Nat, edK T q T.length 0 b a = E := ⟨_, rfl⟩
              rw [hE1] at f1 F1 F2
              rw [hE2] at f2 F1 F2
              have hpn1 : p1 < nn := by rw [HNN.out]; exact hp1
              have hpn2 : p2 < nn := by rw [HNN.out]; exact hp2
              have hgl := htb.lt
              have HTB := Lib.hid htb
              clear hE1 hE2 htb he1 he2 hp1 hp2 hae hbe
              have hws1 : IntKind.i64.wrap ((a : Int) * (n : Int)) = (s1 : Int) := by rw [hs1]; exact IntWalk.i64_in _ (by omega)
              have hws2 : IntKind.i64.wrap ((b : Int) * (n : Int)) = (s2 : Int) := by rw [hs2]; exact IntWalk.i64_in _ (by omega)
              have hwt1 : IntKind.i64.wrap ((s1 : Int) + (b : Int)) = (p1 : Int) := by rw [ht1]; exact IntWalk.i64_in _ (by omega)
              have hwt2 : IntKind.i64.wrap ((s2 : Int) + (a : Int)) = (p2 : Int) := by rw [ht2]; exact IntWalk.i64_in _ (by omega)
              by_cases hc1 : b = a1
              · obtain ⟨rfl, rfl⟩ := F1 hc1
                subst hc1
                have z1 : ((b : Int) == (b : Int)) = true := by simp
                have z2 : ((b : Int) != (b : Int)) = false := by simp
                go_wp2_with fail
                refine region_q mixed (by kernel_rfl) ?_
                repeat (go_big_quiet_step (fail))
                refine wpQuiet_nil ?_
                intro wq hbq3
                go_wp2_with fail
                go_roundw
                case rel => exact ⟨b + 1, by omega, by go_num, HTB.out.below hbq3, hbw.trans (hbq3.mono hbw.size), hbq.trans (hbq3.mono (Nat.le_of_lt hgl))⟩
                case measure => simp [intOf]; omega
              · have z1 : ((b : Int) == (a1 : Int)) = false := by simpa using (show ¬ (b : Int) = (a1 : Int) by omega)
                have z2 : ((b : Int) != (a1 : Int)) = true := by simpa using (show ¬ (b : Int) = (a1 : Int) by omega)
                have q1 := fun d os => cell_regrown f1 d os
                have q2 := fun d os => cell_regrown f2 d os
                by_cases hc2 : a = b1
                · subst hc2
                  have z3 : ((a : Int) != (a : Int)) = false := by simp
                  go_wp2_with fail
                  refine region_q mixed (by kernel_rfl) ?_
                  repeat (go_big_quiet_step (fail))
                  refine wpQuiet_nil ?_
                  intro wq hbq3
                  clear q1 q2
                  go_wp2_with fail
                  go_roundw
                  case rel => exact ⟨b + 1, by omega, by go_num, HTB.out.below hbq3, hbw.trans (hbq3.mono hbw.size), hbq.trans (hbq3.mono (Nat.le_of_lt hgl))⟩
                  case measure => simp [intOf]; omega
                · have z3 : ((a : Int) != (b1 : Int)) = true := by simpa using (show ¬ (a : Int) = (b1 : Int) by omega)
                  obtain ⟨rfl, G2, G3⟩ := F2 hc1 hc2
                  have z4 : ((E1 : Int) != (E1 : Int)) = false := by simp
                  have z5 : decide ((1 : Int) < (E1 : Int)) = false := decide_eq_false (by omega)
                  have HPQW := Lib.hid (HPQ'.out _ hbq)
                  by_cases hc3 : E1 = 1
                  · have HSP := Lib.hid (G3 hc3)
                    subst hc3
                    have z6 : (((1 : Nat) : Int) == 1) = true := rfl
                    clear G2 G3 F1 F2
                    go_wp2_with fail
                    refine region_q mixed (by kernel_rfl) ?_
                    repeat (go_big_quiet_step ((go_at_call 91; exact Calls.regrown_of (rsplits_is _ (HPQW.out.below (below_regrown _ _ _)) HQV.out (by rw [HQL.out]; exact hlta) (by rw [HQL.out]; exact hltb) HSP.out))))
                    refine wpQuiet_nil ?_
                    intro wq hbq3
                    clear q1 q2
                    go_wp2_with fail
                    go_roundw
                    case rel => exact ⟨b + 1, by omega, by go_num, HTB.out.below hbq3, hbw.trans (hbq3.mono hbw.size), hbq.trans (hbq3.mono (Nat.le_of_lt hgl))⟩
                    case measure => simp [intOf]; omega
                  · have z6 : ((E1 : Int) == 1) = false := by simpa using (show ¬ (E1 : Int) = 1 by omega)
                    clear G2 G3 F1 F2
                    go_wp2_with fail
                    refine region_q mixed (by kernel_rfl) ?_
                    repeat (go_big_quiet_step (fail))
                    refine wpQuiet_nil ?_
                    intro wq hbq3
                    clear q1 q2
                    go_wp2_with fail
                    go_roundw
                    case rel => exact ⟨b + 1, by omega, by go_num, HTB.out.below hbq3, hbw.trans (hbq3.mono hbw.size), hbq.trans (hbq3.mono (Nat.le_of_lt hgl))⟩
                    case measure => simp [intOf]; omega
            · have hgb : decide ((b : Int) < (n : Int)) = false := decide_eq_false (by omega)
              go_wp2_with fail
              go_roundw
              case rel => exact ⟨a + 1, by omega, by go_num, htb, hbw, hbq⟩
              case measure => simp [intOf]; omega
        · have hga : decide ((a : Int) < (n : Int)) = false := decide_eq_false (by omega)
          go_wp2_with fail
          go_ret
          exact ⟨rfl, hbw⟩
end Go.Proofs.Ythiemglckmociaa
