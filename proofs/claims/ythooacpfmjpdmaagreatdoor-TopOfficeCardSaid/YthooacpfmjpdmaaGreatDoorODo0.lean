/- The order day. Conditions: as said. -/
import Derived.Test.YthooacpfmjpdmaaGreatDoorODoB
namespace Go.Proofs.YthooacpfmjpdmaaGreatDoor
open Go.RowKit
set_option maxRecDepth 1000000 in
set_option maxHeartbeats 16000000 in
theorem do_day (m : Nat) (w : World) (B n : Nat) (s : St) (g1 c1 g2 c2 g3 c3 : Nat) (cv lv : Value) (c : Cal) (a0 : Int) (ra0 : 0 ≤ a0 ∧ a0 ≤ 9999) (h : StBox m w B n s g1 c1 g2 c2 g3 c3) (hg : Good s) (hc : CalAt w cv c) (hv : validF c = 0) (hl : IntsAt w lv [a0]) :
    Calls Tryz.prog 64 #[.pointer (some ⟨B, 0, none⟩), cv, frmV (0, 1, 0), lv] w (DoR m w B n g1 c1 g2 c2 g3 c3 (kindE c s 0 [a0]) (kindS c s 0 [a0])) := by
  have HB := Lib.hid h
  have HG := Lib.hid hg
  have HC := Lib.hid hc
  have HV := Lib.hid hv
  have HL := Lib.hid hl
  have hn1 := h.st.n1
  have hn8 := h.st.n8
  have hmB := h.mB
  have hBl : B < w.heap.size := (Array.getElem?_eq_some_iff.1 h.box).1
  have hmW : m ≤ w.heap.size := by omega
  obtain ⟨ca, cc, rfl, hlc, hcm, -⟩ := hl
  obtain ⟨fv, sv, rfl, -⟩ := id hc
  obtain ⟨fa, fn, fc, rfl, sa, sn, sc, rfl⟩ : ∃ fa fn fc, fv = .slice fa fn fc ∧ ∃ sa sn sc, sv = .slice sa sn sc := by
    obtain ⟨fv', sv', e, ⟨fa, fc, e1, _⟩, ⟨sa, sc, e2, _⟩⟩ := HC.out
    simp only [Value.agg.injEq, Array.mk.injEq, List.cons.injEq, and_true, true_and] at e
    exact ⟨fa, _, fc, by rw [e.1, e1], sa, _, sc, by rw [e.2, e2]⟩
  simp only [List.length_cons, List.length_nil, Nat.zero_add] at hlc HL ⊢
  obtain ⟨lb, lo, rfl, hlb, x0⟩ := HL.out.cellAt (m := 0) (by simp)
  simp only [gi, List.getElem?_cons_zero, Option.getD_some, Nat.add_zero] at x0
  clear h hg hc hv
  unfold frmV
  dsimp only
  go_enter Tryz.func64, Tryz.ntmps64
  go_wp2
  obtain ⟨W0, hW0⟩ : ∃ W0, (w.alloc (.cells #[.int .i64 c.first, .slice fa fn fc, .slice sa sn sc] 25)).alloc (.cells #[.int .i64 0, .int .i64 1, .int .i64 0] 104) = W0 := ⟨_, rfl⟩
  have hbW : Below w.heap.size w W0 := by rw [← hW0]; (repeat' (first | exact Below.refl _ _ | assumption | refine below_new ?_ _ | refine below_draw ?_ | refine below_tail (by assumption) ?_ | refine below_set ?_ (by first | omega | (simp <;> omega)) _))
  have hBC : W0.heap[w.heap.size]? = some (.cells #[.int .i64 c.first, .slice fa fn fc, .slice sa sn sc] 25 (0, 0)) := by
    rw [← hW0, Below.heap_alloc _ _ _ (by simp)]; exact alloc_new _ _ rfl
  have hBF : W0.heap[w.heap.size + 1]? = some (.cells #[.int .i64 0, .int .i64 1, .int .i64 0] 104 (0, 0)) := by
    rw [← hW0]; exact alloc_new _ _ (by simp)
  rw [hW0]
  have HST : Hid (StBox m W0 B n s g1 c1 g2 c2 g3 c3) := HB.out.keep hbW
  have hBW := HST.out.box
  unfold stC at hBW
  have kf := (cell_of_block hBF 0).trans (show _ = some (.int .i64 0) from rfl)
  have _ := ra0
  have b0 := (cell_of_block hBW 0).trans (show _ = some (.int .i64 s.day) from rfl)
  have hfB0 := frozen_of_block hBW 0
  have hBl0 : B < W0.heap.size := Nat.lt_of_lt_of_le hBl hbW.size
  have y0 := (hbW.cell (p := ⟨lb, lo, none⟩) hlb).trans x0
  have hlb0 : lb < W0.heap.size := Nat.lt_of_lt_of_le hlb hbW.size
  clear hW0 x0 hBF
  go_loop [32] (fun i => i = .int .i64 0) (fun _ => 0)
  case atStart => rfl
  case round =>
    subst hrel
    have hw1 : IntKind.i64.wrap (s.day + a0) = s.day + a0 := IntWalk.i64_in _ (by have := HG.out.day0; have := HG.out.day1; omega)
    obtain ⟨q0, hq0_⟩ : ∃ q, (a0 == 0) = q := ⟨_, rfl⟩
    obtain ⟨e0, he0⟩ : ∃ e, whenE q0 1 = e := ⟨_, rfl⟩
    have H0 := Lib.hid he0
    obtain ⟨q1, hq1_⟩ : ∃ q, (decide (10000 < s.day + a0)) = q := ⟨_, rfl⟩
    obtain ⟨e1, he1⟩ : ∃ e, whenE q1 3 = e := ⟨_, rfl⟩
    have H1 := Lib.hid he1
    obtain ⟨e, he⟩ : ∃ e, orFrom [e0, e1] 0 = e := ⟨_, rfl⟩
    have HEE := Lib.hid he
    have HKE : Hid (orFrom [whenE (a0 == 0) 1, whenE (decide (10000 < s.day + a0)) 3] 0 = e) := by show _ = _; rw [← he, ← he0, ← he1, hq0_, hq1_]
    clear he he0 he1
    have hm := cells_errV
    unfold Value.cells at hm
    go_wp2
    go_region_held3 (fun w' => w'.cell? ⟨B, 0, none⟩ = some (.int .i64 s.day) ∧ w'.cell? ⟨lb, lo, none⟩ = some (.int .i64 (a0))) (first | go_keep)
      ((first
        | (go_at_call 97; (with_reducible refine (when_is (by decide) H0.out).use ?_))
        | (go_at_call 97; (with_reducible refine (when_is (by decide) H1.out).use ?_))
        | (go_at_call 96; (with_reducible refine (first_is (errs2d rfl) HEE.out).use ?_))
        | (go_at_call 96; (with_reducible refine (first_is (errs2 rfl) HEE.out).use ?_))))
    clear hm
    have HBM : Hid (∀ w2, Below W0.heap.size W0 w2 → Below m w w2) := fun w2 h2 => (hbW.mono hmW).trans (h2.mono (Nat.le_trans hmW hbW.size))
    have HD : Hid (Done m w W0 B n s g1 c1 g2 c2 g3 c3) := ⟨hbW.mono hmW, HST.out⟩
    have HKK : Hid (kindE c s 0 [a0] = e) := by
      have hh := HKE.out
      exact hh
    by_cases hz : e = 0
    · have HE0 := Lib.hid hz
      rw [hz, errV_0]
      clear hz
      have hmx := mixed
      go_wp2
      go_big_region_o
      go_wp2
      refine bodyPost_ret (v := .nilIface) (by simp [results, Tryz.f64, go_sem]) rfl ?_
      refine Done.fin (HKK.out.trans HE0.out) ?_
      exact Done.below (Done.cell (i := 0) (v := .int .i64 (s.day + a0)) HD.out rfl rfl rfl rfl) (by (repeat' (first | exact Below.refl _ _ | assumption | refine below_new ?_ _ | refine below_draw ?_ | refine below_tail (by assumption) ?_ | refine below_set ?_ (by first | omega | (simp <;> omega)) _)))
    · skip
      have hne := Lib.hid hz
      rw [errV_ne hz]
      go_wp2
      refine bodyPost_ret (v := .iface 127 (.agg #[.int .i64 e])) (by simp [results, Tryz.f64, go_sem]) rfl ?_
      exact ⟨by rw [show kindE _ _ _ _ = e from HKK.out, errV_ne hne.out], HBM.out _ (by (repeat' (first | exact Below.refl _ _ | assumption | refine below_new ?_ _ | refine below_draw ?_ | refine below_tail (by assumption) ?_ | refine below_set ?_ (by first | omega | (simp <;> omega)) _))), fun h0 => absurd (HKK.out.symm.trans h0) hne.out⟩
end Go.Proofs.YthooacpfmjpdmaaGreatDoor
