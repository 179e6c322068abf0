/- The order strip. Conditions: as said. -/
import Derived.Test.YthooacpfmjpdmaaGreatDoorODoB
namespace Go.Proofs.YthooacpfmjpdmaaGreatDoor
open Go.RowKit
set_option maxRecDepth 1000000 in
set_option maxHeartbeats 16000000 in
theorem do_strip (m : Nat) (w : World) (B n : Nat) (s : St) (g1 c1 g2 c2 g3 c3 : Nat) (cv lv : Value) (c : Cal) (i0 : Nat) (hi0 : i0 < n) (a1 : Int) (ra1 : 0 ≤ a1 ∧ a1 ≤ 9999) (h : StBox m w B n s g1 c1 g2 c2 g3 c3) (hg : Good s) (hc : CalAt w cv c) (hv : validF c = 0) (hl : IntsAt w lv [(i0 : Int), a1]) :
    Calls Tryz.prog 64 #[.pointer (some ⟨B, 0, none⟩), cv, frmV (1, 2, 1), lv] w (DoR m w B n g1 c1 g2 c2 g3 c3 (kindE c s 1 [(i0 : Int), a1]) (kindS c s 1 [(i0 : Int), a1])) := by
  have HB := Lib.hid h
  have HG := Lib.hid hg
  have HC := Lib.hid hc
  have HV := Lib.hid hv
  have HL := Lib.hid hl
  have hn1 := h.st.n1
  have hn8 := h.st.n8
  have hmB := h.mB
  have hBl : B < w.heap.size := (Array.getElem?_eq_some_iff.1 h.box).1
  have hmW : m ≤ w.heap.size := by omega
  obtain ⟨ca, cc, rfl, hlc, hcm, -⟩ := hl
  obtain ⟨fv, sv, rfl, -⟩ := id hc
  obtain ⟨fa, fn, fc, rfl, sa, sn, sc, rfl⟩ : ∃ fa fn fc, fv = .slice fa fn fc ∧ ∃ sa sn sc, sv = .slice sa sn sc := by
    obtain ⟨fv', sv', e, ⟨fa, fc, e1, _⟩, ⟨sa, sc, e2, _⟩⟩ := HC.out
    simp only [Value.agg.injEq, Array.mk.injEq, List.cons.injEq, and_true, true_and] at e
    exact ⟨fa, _, fc, by rw [e.1, e1], sa, _, sc, by rw [e.2, e2]⟩
  simp only [List.length_cons, List.length_nil, Nat.zero_add, Nat.reduceAdd] at hlc HL ⊢
  obtain ⟨lb, lo, rfl, hlb, x0⟩ := HL.out.cellAt (m := 0) (by simp)
  simp only [gi, List.getElem?_cons_zero, Option.getD_some, Nat.add_zero] at x0
  obtain ⟨_, _, ex1, -, x1⟩ := HL.out.cellAt (m := 1) (by simp)
  cases ex1
  simp [gi] at x1
  clear h hg hc hv
  unfold frmV
  dsimp only
  go_enter Tryz.func64, Tryz.ntmps64
  go_wp2
  obtain ⟨W0, hW0⟩ : ∃ W0, (w.alloc (.cells #[.int .i64 c.first, .slice fa fn fc, .slice sa sn sc] 25)).alloc (.cells #[.int .i64 1, .int .i64 2, .int .i64 1] 104) = W0 := ⟨_, rfl⟩
  have hbW : Below w.heap.size w W0 := by rw [← hW0]; (repeat' (first | exact Below.refl _ _ | assumption | refine below_new ?_ _ | refine below_draw ?_ | refine below_tail (by assumption) ?_ | refine below_set ?_ (by first | omega | (simp <;> omega)) _))
  have hBC : W0.heap[w.heap.size]? = some (.cells #[.int .i64 c.first, .slice fa fn fc, .slice sa sn sc] 25 (0, 0)) := by
    rw [← hW0, Below.heap_alloc _ _ _ (by simp)]; exact alloc_new _ _ rfl
  have hBF : W0.heap[w.heap.size + 1]? = some (.cells #[.int .i64 1, .int .i64 2, .int .i64 1] 104 (0, 0)) := by
    rw [← hW0]; exact alloc_new _ _ (by simp)
  rw [hW0]
  have HST : Hid (StBox m W0 B n s g1 c1 g2 c2 g3 c3) := HB.out.keep hbW
  have hBW := HST.out.box
  unfold stC at hBW
  have kf := (cell_of_block hBF 0).trans (show _ = some (.int .i64 1) from rfl)
  have _ := ra1
  have b1 := (cell_of_block hBW 1).trans (show _ = some (.slice (some ⟨g1, 0, none⟩) n c1) from rfl)
  have b4 := (cell_of_block hBW 4).trans (show _ = some (.bool s.fixed) from rfl)
  have hBl0 : B < W0.heap.size := Nat.lt_of_lt_of_le hBl hbW.size
  have y0 := (hbW.cell (p := ⟨lb, lo, none⟩) hlb).trans x0
  have y1 := (hbW.cell (p := ⟨lb, lo + 1, none⟩) hlb).trans x1
  have hlb0 : lb < W0.heap.size := Nat.lt_of_lt_of_le hlb hbW.size
  have hd0 : decide ((n : Int) ≤ (i0 : Int)) = false := decide_eq_false (by omega)
  have hp0 : (0 : Int) ≤ (i0 : Int) := by omega
  have hq0 : (i0 : Int) < (n : Int) := by omega
  clear hW0 x0 x1 hBF
  go_loop [32] (fun i => ∃ q : Nat, q ≤ 1 ∧ i = .int .i64 q) (fun i => 1 - (intOf i).toNat)
  case atStart => exact ⟨0, Nat.zero_le _, rfl⟩
  case round =>
    obtain ⟨q, hqo, rfl⟩ := hrel
    rcases (show q = 0 ∨ q = 1 by omega) with rfl | rfl
    · go_wp2
      go_round
      case rel => exact ⟨1, by omega, by go_num⟩
      case measure => simp [intOf]
    skip
    obtain ⟨v0, hv0_⟩ : ∃ v, gi s.strips 0 i0 = v := ⟨_, rfl⟩
    have z0 : W0.cell? ⟨g1, i0, none⟩ = some (.int .i64 v0) := by rw [← hv0_]; exact HST.out.st.c1 hi0
    have fz0 : W0.frozen? ⟨g1, i0, none⟩ = false := HST.out.st.r1.frozen _
    have hgl0 : g1 < W0.heap.size := HST.out.st.r1.lt
    have rv0 : 0 ≤ v0 ∧ v0 ≤ 1000 := by rw [← hv0_]; exact HG.out.str _ (gi_mem (by rw [HST.out.st.l1]; exact hi0))
    have hw1 : IntKind.i64.wrap (v0 + a1) = v0 + a1 := IntWalk.i64_in _ (by omega)
    obtain ⟨q0, hq0_⟩ : ∃ q, (a1 == 0) = q := ⟨_, rfl⟩
    obtain ⟨e0, he0⟩ : ∃ e, whenE q0 1 = e := ⟨_, rfl⟩
    have H0 := Lib.hid he0
    obtain ⟨q1, hq1_⟩ : ∃ q, (s.fixed) = q := ⟨_, rfl⟩
    obtain ⟨e1, he1⟩ : ∃ e, whenE q1 10 = e := ⟨_, rfl⟩
    have H1 := Lib.hid he1
    obtain ⟨q2, hq2_⟩ : ∃ q, (decide (1000 < v0 + a1)) = q := ⟨_, rfl⟩
    obtain ⟨e2, he2⟩ : ∃ e, whenE q2 3 = e := ⟨_, rfl⟩
    have H2 := Lib.hid he2
    obtain ⟨e, he⟩ : ∃ e, orFrom [e0, e1, e2] 0 = e := ⟨_, rfl⟩
    have HEE := Lib.hid he
    have HKE : Hid (orFrom [whenE (a1 == 0) 1, whenE (s.fixed) 10, whenE (decide (1000 < v0 + a1)) 3] 0 = e) := by show _ = _; rw [← he, ← he0, ← he1, ← he2, hq0_, hq1_, hq2_]
    clear he he0 he1 he2
    have hm := cells_errV
    unfold Value.cells at hm
    go_wp2
    go_region_held3 (fun w' => w'.cell? ⟨B, 1, none⟩ = some (.slice (some ⟨g1, 0, none⟩) n c1) ∧ w'.cell? ⟨B, 4, none⟩ = some (.bool s.fixed) ∧ w'.cell? ⟨g1, i0, none⟩ = some (.int .i64 v0) ∧ w'.cell? ⟨lb, lo, none⟩ = some (.int .i64 (i0)) ∧ w'.cell? ⟨lb, lo + 1, none⟩ = some (.int .i64 (a1))) (first | go_keep)
      ((first
        | (go_at_call 97; (with_reducible refine (when_is (by decide) H0.out).use ?_))
        | (go_at_call 97; (with_reducible refine (when_is (by decide) H1.out).use ?_))
        | (go_at_call 97; (with_reducible refine (when_is (by decide) H2.out).use ?_))
        | (go_at_call 96; (with_reducible refine (first_is (errs3d rfl) HEE.out).use ?_))
        | (go_at_call 96; (with_reducible refine (first_is (errs3 rfl) HEE.out).use ?_))))
    clear hm
    have HBM : Hid (∀ w2, Below W0.heap.size W0 w2 → Below m w w2) := fun w2 h2 => (hbW.mono hmW).trans (h2.mono (Nat.le_trans hmW hbW.size))
    have HD : Hid (Done m w W0 B n s g1 c1 g2 c2 g3 c3) := ⟨hbW.mono hmW, HST.out⟩
    have HKK : Hid (kindE c s 1 [(i0 : Int), a1] = e) := by
      have hh := HKE.out
      rw [← hv0_] at hh
      exact hh
    by_cases hz : e = 0
    · have HE0 := Lib.hid hz
      rw [hz, errV_0]
      clear hz
      have hmx := mixed
      go_wp2
      go_big_region_o
      go_wp2
      refine bodyPost_ret (v := .nilIface) (by simp [results, Tryz.f64, go_sem]) rfl ?_
      refine Done.fin (HKK.out.trans HE0.out) ?_
      exact Done.below (Done.row1 (i := i0) (x := v0 + a1) HD.out rfl (by rw [← hv0_]; rfl) rfl rfl) (by (repeat' (first | exact Below.refl _ _ | assumption | refine below_new ?_ _ | refine below_draw ?_ | refine below_tail (by assumption) ?_ | refine below_set ?_ (by first | omega | (simp <;> omega)) _)))
    · skip
      have hne := Lib.hid hz
      rw [errV_ne hz]
      go_wp2
      refine bodyPost_ret (v := .iface 127 (.agg #[.int .i64 e])) (by simp [results, Tryz.f64, go_sem]) rfl ?_
      exact ⟨by rw [show kindE _ _ _ _ = e from HKK.out, errV_ne hne.out], HBM.out _ (by (repeat' (first | exact Below.refl _ _ | assumption | refine below_new ?_ _ | refine below_draw ?_ | refine below_tail (by assumption) ?_ | refine below_set ?_ (by first | omega | (simp <;> omega)) _))), fun h0 => absurd (HKK.out.symm.trans h0) hne.out⟩
end Go.Proofs.YthooacpfmjpdmaaGreatDoor
