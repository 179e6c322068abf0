/- An order for an owner that is none. Conditions: as said. -/
import Derived.Test.YthooacpfmjpdmaaGreatDoorODoB
namespace Go.Proofs.YthooacpfmjpdmaaGreatDoor
open Go.RowKit
set_option maxRecDepth 1000000 in
set_option maxHeartbeats 16000000 in
theorem do_none1 (m : Nat) (w : World) (B n : Nat) (s : St) (g1 c1 g2 c2 g3 c3 : Nat) (cv lv : Value) (c : Cal) (k nn : Int) (l : List Int) (hll : 1 ≤ l.length) (hl1k : l.length ≤ 100) (hbad : (n : Int) ≤ gi l 0 0) (h : StBox m w B n s g1 c1 g2 c2 g3 c3) (hc : CalAt w cv c) (hl : IntsAt w lv l) :
    Calls Tryz.prog 64 #[.pointer (some ⟨B, 0, none⟩), cv, frmV (k, nn, 1), lv] w fun e w' => e = .returned (refV 4) ∧ Below m w w' := by
  have HB := Lib.hid h
  have HL := Lib.hid hl
  have hn1 := h.st.n1
  have hn8 := h.st.n8
  have hmB := h.mB
  have hBl : B < w.heap.size := (Array.getElem?_eq_some_iff.1 h.box).1
  have hmW : m ≤ w.heap.size := by omega
  obtain ⟨ca, cc, rfl, hlc, hcm, -⟩ := hl
  obtain ⟨fv, sv, rfl, -⟩ := id hc
  obtain ⟨fa, fn, fc, rfl, sa, sn, sc, rfl⟩ : ∃ fa fn fc, fv = .slice fa fn fc ∧ ∃ sa sn sc, sv = .slice sa sn sc := by
    obtain ⟨fv', sv', e, ⟨fa, fc, e1, _⟩, ⟨sa, sc, e2, _⟩⟩ := hc
    simp only [Value.agg.injEq, Array.mk.injEq, List.cons.injEq, and_true, true_and] at e
    exact ⟨fa, _, fc, by rw [e.1, e1], sa, _, sc, by rw [e.2, e2]⟩
  obtain ⟨lb, lo, rfl, hlb, x0⟩ := HL.out.cellAt (m := 0) (by omega)
  rw [Nat.add_zero] at x0
  obtain ⟨a0, ha0⟩ : ∃ a, gi l 0 0 = a := ⟨_, rfl⟩
  rw [ha0] at x0 hbad
  clear ha0
  obtain ⟨ll, hll_⟩ : ∃ ll, l.length = ll := ⟨_, rfl⟩
  rw [hll_] at hll hlc hl1k ⊢
  clear h hc hll_ HL
  unfold frmV
  dsimp only
  go_enter Tryz.func64, Tryz.ntmps64
  go_wp2
  obtain ⟨W0, hW0⟩ : ∃ W0, (w.alloc (.cells #[.int .i64 c.first, .slice fa fn fc, .slice sa sn sc] 25)).alloc (.cells #[.int .i64 k, .int .i64 nn, .int .i64 1] 104) = W0 := ⟨_, rfl⟩
  have hbW : Below w.heap.size w W0 := by rw [← hW0]; (repeat' (first | exact Below.refl _ _ | assumption | refine below_new ?_ _ | refine below_draw ?_ | refine below_tail (by assumption) ?_ | refine below_set ?_ (by first | omega | (simp <;> omega)) _))
  rw [hW0]
  have HST : Hid (StBox m W0 B n s g1 c1 g2 c2 g3 c3) := HB.out.keep hbW
  have hBW := HST.out.box
  unfold stC at hBW
  have b1 := (cell_of_block hBW 1).trans (show _ = some (.slice (some ⟨g1, 0, none⟩) n c1) from rfl)
  have hBl0 : B < W0.heap.size := Nat.lt_of_lt_of_le hBl hbW.size
  have hlb0 : lb < W0.heap.size := Nat.lt_of_lt_of_le hlb hbW.size
  have y0 := (hbW.cell (p := ⟨lb, lo, none⟩) hlb).trans x0
  clear hW0 x0 hBW
  go_loop [32] (fun i => i = .int .i64 0) (fun _ => 0)
  case atStart => rfl
  case round =>
    subst hrel
    have k1 : decide ((n : Int) ≤ a0) = true := decide_eq_true hbad
    go_wp2
    refine bodyPost_ret (v := .iface 127 (.agg #[.int .i64 4])) (by simp [results, Tryz.f64, go_sem]) rfl ?_
    exact ⟨rfl, (hbW.mono hmW).trans (Below.refl _ _)⟩
set_option maxRecDepth 1000000 in
set_option maxHeartbeats 16000000 in
theorem do_none2 (m : Nat) (w : World) (B n : Nat) (s : St) (g1 c1 g2 c2 g3 c3 : Nat) (cv lv : Value) (c : Cal) (k nn : Int) (l : List Int) (hll : 2 ≤ l.length) (hl1k : l.length ≤ 100) (hbad : (n : Int) ≤ gi l 0 0 ∨ (n : Int) ≤ gi l 0 1) (h : StBox m w B n s g1 c1 g2 c2 g3 c3) (hc : CalAt w cv c) (hl : IntsAt w lv l) :
    Calls Tryz.prog 64 #[.pointer (some ⟨B, 0, none⟩), cv, frmV (k, nn, 2), lv] w fun e w' => e = .returned (refV 4) ∧ Below m w w' := by
  have HB := Lib.hid h
  have HL := Lib.hid hl
  have hn1 := h.st.n1
  have hn8 := h.st.n8
  have hmB := h.mB
  have hBl : B < w.heap.size := (Array.getElem?_eq_some_iff.1 h.box).1
  have hmW : m ≤ w.heap.size := by omega
  obtain ⟨ca, cc, rfl, hlc, hcm, -⟩ := hl
  obtain ⟨fv, sv, rfl, -⟩ := id hc
  obtain ⟨fa, fn, fc, rfl, sa, sn, sc, rfl⟩ : ∃ fa fn fc, fv = .slice fa fn fc ∧ ∃ sa sn sc, sv = .slice sa sn sc := by
    obtain ⟨fv', sv', e, ⟨fa, fc, e1, _⟩, ⟨sa, sc, e2, _⟩⟩ := hc
    simp only [Value.agg.injEq, Array.mk.injEq, List.cons.injEq, and_true, true_and] at e
    exact ⟨fa, _, fc, by rw [e.1, e1], sa, _, sc, by rw [e.2, e2]⟩
  obtain ⟨lb, lo, rfl, hlb, x0⟩ := HL.out.cellAt (m := 0) (by omega)
  rw [Nat.add_zero] at x0
  obtain ⟨a0, ha0⟩ : ∃ a, gi l 0 0 = a := ⟨_, rfl⟩
  rw [ha0] at x0 hbad
  clear ha0
  obtain ⟨_, _, ex1, -, x1⟩ := HL.out.cellAt (m := 1) (by omega)
  cases ex1
  obtain ⟨a1, ha1⟩ : ∃ a, gi l 0 1 = a := ⟨_, rfl⟩
  rw [ha1] at x1 hbad
  clear ha1
  obtain ⟨ll, hll_⟩ : ∃ ll, l.length = ll := ⟨_, rfl⟩
  rw [hll_] at hll hlc hl1k ⊢
  clear h hc hll_ HL
  unfold frmV
  dsimp only
  go_enter Tryz.func64, Tryz.ntmps64
  go_wp2
  obtain ⟨W0, hW0⟩ : ∃ W0, (w.alloc (.cells #[.int .i64 c.first, .slice fa fn fc, .slice sa sn sc] 25)).alloc (.cells #[.int .i64 k, .int .i64 nn, .int .i64 2] 104) = W0 := ⟨_, rfl⟩
  have hbW : Below w.heap.size w W0 := by rw [← hW0]; (repeat' (first | exact Below.refl _ _ | assumption | refine below_new ?_ _ | refine below_draw ?_ | refine below_tail (by assumption) ?_ | refine below_set ?_ (by first | omega | (simp <;> omega)) _))
  rw [hW0]
  have HST : Hid (StBox m W0 B n s g1 c1 g2 c2 g3 c3) := HB.out.keep hbW
  have hBW := HST.out.box
  unfold stC at hBW
  have b1 := (cell_of_block hBW 1).trans (show _ = some (.slice (some ⟨g1, 0, none⟩) n c1) from rfl)
  have hBl0 : B < W0.heap.size := Nat.lt_of_lt_of_le hBl hbW.size
  have hlb0 : lb < W0.heap.size := Nat.lt_of_lt_of_le hlb hbW.size
  have y0 := (hbW.cell (p := ⟨lb, lo, none⟩) hlb).trans x0
  have y1 := (hbW.cell (p := ⟨lb, lo + 1, none⟩) hlb).trans x1
  clear hW0 x0 x1 hBW
  go_loop [32] (fun i => ∃ q : Nat, q ≤ 1 ∧ i = .int .i64 q ∧ (q = 1 → ¬ (n : Int) ≤ a0)) (fun i => 1 - (intOf i).toNat)
  case atStart => exact ⟨0, Nat.zero_le _, rfl, fun h => by cases h⟩
  case round =>
    obtain ⟨q, hqo, rfl, hq1⟩ := hrel
    by_cases h0 : (n : Int) ≤ a0
    · rcases (show q = 0 ∨ q = 1 by omega) with rfl | rfl
      · have k1 : decide ((n : Int) ≤ a0) = true := decide_eq_true h0
        clear hq1
        go_wp2
        refine bodyPost_ret (v := .iface 127 (.agg #[.int .i64 4])) (by simp [results, Tryz.f64, go_sem]) rfl ?_
        exact ⟨rfl, (hbW.mono hmW).trans (Below.refl _ _)⟩
      · exact absurd h0 (hq1 rfl)
    · rcases (show q = 0 ∨ q = 1 by omega) with rfl | rfl
      · have k1 : decide ((n : Int) ≤ a0) = false := decide_eq_false h0
        clear hq1
        go_wp2
        go_round
        case rel => exact ⟨1, Nat.le_refl _, by go_num, fun _ => h0⟩
        case measure => simp [intOf]
      · have k1 : decide ((n : Int) ≤ a1) = true := decide_eq_true (by omega)
        clear hq1
        go_wp2
        refine bodyPost_ret (v := .iface 127 (.agg #[.int .i64 4])) (by simp [results, Tryz.f64, go_sem]) rfl ?_
        exact ⟨rfl, (hbW.mono hmW).trans (Below.refl _ _)⟩
end Go.Proofs.YthooacpfmjpdmaaGreatDoor
