/- What IsConvex of package plot and of the document gives. Conditions: the list lies in memory as said. -/
import Derived.Test.YthiemglckmociaaPtHullA
import Derived.Test.YthiemglckmociaaPtKnown
namespace Go.Proofs.Ythiemglckmociaa
open Go.RowKit Go.Shelf
attribute [local go_sem] Oper.semAt_some wide_fn

/-- Does the plot turn the other way at corner j + 1? (s: its area, with sign.) -/
def cvB (l : List (Int × Int)) (s : Int) (j : Nat) : Bool := (turn (cor l j) (cor l (j + 1)) (cor l (j + 2)) != 0) && (decide (0 < turn (cor l j) (cor l (j + 1)) (cor l (j + 2))) != decide (0 < s))
theorem conv_yes {l : List (Int × Int)} {s : Int} (h : areaK l l.length = s) (k : ∀ j, j < l.length → cvB l s j = false) : convB l = true := by
  subst h
  show (!(anyN (fun i => cvB l (areaK l l.length) i) l.length)) = true
  rw [anyN_false k]; rfl
theorem conv_no {l : List (Int × Int)} {s : Int} (h : areaK l l.length = s) {j : Nat} (hj : j < l.length) (k : cvB l s j = true) : convB l = false := by
  subst h
  show (!(anyN (fun i => cvB l (areaK l l.length) i) l.length)) = false
  rw [anyN_true (f := fun i => cvB l (areaK l l.length) i) hj k]; rfl
/-- Is it convex? (No plot: no.) -/
def cvxB (l : List (Int × Int)) : Bool := if validF l = 0 then convB l else false

set_option maxHeartbeats 4000000 in
set_option maxRecDepth 100000 in
theorem IsConvex_calls (v : Value) (l : List (Int × Int)) (w : World) (h : PairsAt w v l) :
    Gives Try.prog 52 #[v] w (.tuple #[.bool (cvxB l), .int .i64 (validF l)]) := by
  have HP := Lib.hid h
  have HR : Hid (cvxB l = if validF l = 0 then convB l else false) := rfl
  obtain ⟨sa, cap, rfl, hlc, hcm, _⟩ := h
  obtain ⟨e, he⟩ : ∃ e, validF l = e := ⟨_, rfl⟩
  have HE := Lib.hid he
  unfold Gives
  by_cases hz : e = 0
  · subst hz
    have hv := valid_iff.1 he
    have h3 := hv.lo
    have h10 := hv.hi
    have HV := Lib.hid hv
    have HBD := Lib.hid hv.bd
    have hnz := hv.area_ne
    obtain ⟨s, hs⟩ : ∃ s, areaK l l.length = s := ⟨_, rfl⟩
    have HS := Lib.hid hs
    clear he hv hnz hs
    refine (callsIn_wide (n := 9)).1 ?_
    refine callsIn_of_wp_marks Try.func52 rfl trivial ?_ rfl
    simp only [Try.ntmps52, List.size_toArray, List.length_cons, List.length_nil, Nat.reduceAdd, Nat.reduceSub, Array.replicate_succ, Array.replicate_zero, List.push_toArray, List.append_toArray, List.nil_append, List.cons_append]
    gi_wp2_with (first | (gi_at_call 27; refine callsIn_wide.2 ((validate_is _ (HP.out.below (by (repeat' (first | exact Below.refl _ _ | assumption | refine below_new ?_ _ | refine below_draw ?_ | refine below_tail (by assumption) ?_ | refine below_set ?_ (by first | omega | (simp <;> omega)) _)))) HE.out).use ?_); intro w1 hb1 hz1 hc1 hf1; (try simp at hz1); have hx0 := hc1 w.heap.size 0 (by simp <;> omega); have hx1 := hc1 (w.heap.size + 1) 0 (by simp <;> omega); have hx2 := hc1 (w.heap.size + 1 + 1) 0 (by simp <;> omega); have hy1 := hf1 (w.heap.size + 1) 0 (by simp <;> omega); have hy2 := hf1 (w.heap.size + 1 + 1) 0 (by simp <;> omega); clear hc1 hf1; simp [go_sem] at hx0 hx1 hx2 hy1 hy2) | (gi_at_call 60; refine callsIn_wide.2 ((sum_is _ (HP.out.below (by (repeat' (first | exact Below.refl _ _ | assumption | refine below_new ?_ _ | refine below_draw ?_ | refine below_tail (by assumption) ?_ | refine below_set ?_ (by first | omega | (simp <;> omega)) _)))) HV.out HS.out).use ?_); intro w2 hb2 hz2 hc2 hf2; have hx0 := (hc2 w.heap.size 0 (by omega)).trans hx0; have hx1 := (hc2 (w.heap.size + 1) 0 (by omega)).trans hx1; have hx2 := (hc2 (w.heap.size + 1 + 1) 0 (by omega)).trans hx2; have hy1 := (hf2 (w.heap.size + 1) 0 (by omega)).trans hy1; have hy2 := (hf2 (w.heap.size + 1 + 1) 0 (by omega)).trans hy2; have hq0 : w.heap.size < w2.heap.size := (by omega); have hq1 : w.heap.size + 1 < w2.heap.size := (by omega); have hq2 : w.heap.size + 1 + 1 < w2.heap.size := (by omega); clear hc2 hf2) | (gi_at_call 56; refine (callsIn_wide.2 (sides_calls _ _ _ _)).mono ?_; rintro e w' ⟨rfl, rfl⟩))
    obtain ⟨M, hM⟩ : ∃ M, w2.heap.size = M := ⟨_, rfl⟩
    rw [hM]
    obtain ⟨W0, hW0⟩ : ∃ W0, (w2.alloc (.cells #[.int .i64 s] 3)).alloc (.cells #[.slice sa l.length cap] 22) = W0 := ⟨_, rfl⟩
    rw [hW0]
    have hB0 : Below w.heap.size w W0 := by rw [← hW0]; (repeat' (first | exact Below.refl _ _ | assumption | refine below_new ?_ _ | refine below_draw ?_ | refine below_tail (by assumption) ?_ | refine below_set ?_ (by first | omega | (simp <;> omega)) _))
    have hsz : W0.heap.size = M + 2 := by rw [← hW0]; simp [go_sem]; omega
    have hMw : w.heap.size + 3 ≤ M := by omega
    have e6 : W0.cell? ⟨M + 1, 0, none⟩ = some (.slice sa l.length cap) := by rw [← hW0, ← hM]; simp [go_sem]
    have e5 : W0.cell? ⟨M, 0, none⟩ = some (.int .i64 s) := by rw [← hW0, ← hM]; simp [go_sem]
    have hb9 : Below w2.heap.size w2 W0 := by rw [← hW0]; (repeat' (first | exact Below.refl _ _ | assumption | refine below_new ?_ _ | refine below_draw ?_ | refine below_tail (by assumption) ?_ | refine below_set ?_ (by first | omega | (simp <;> omega)) _))
    have e0 := (hb9.cell (p := ⟨w.heap.size, 0, none⟩) (by dsimp only; omega)).trans hx0
    have e1 := (hb9.cell (p := ⟨w.heap.size + 1, 0, none⟩) (by dsimp only; omega)).trans hx1
    have e2 := (hb9.cell (p := ⟨w.heap.size + 1 + 1, 0, none⟩) (by dsimp only; omega)).trans hx2
    have e3 := (hb9.frozen (p := ⟨w.heap.size + 1, 0, none⟩) (by dsimp only; omega)).trans hy1
    have e4 := (hb9.frozen (p := ⟨w.heap.size + 1 + 1, 0, none⟩) (by dsimp only; omega)).trans hy2
    clear hW0 hb9 hx0 hx1 hx2 hy1 hy2 hb1 hb2 hz1 hz2 hM hq0 hq1 hq2
    refine wide_rangeBox (gf := 103) (lb := #[.pointer (some ⟨M + 1, 0, none⟩)]) rfl (enters_of Try.func103 (by kernel_rfl) rfl) (sides_iter (M + 1) _ l (by omega) (by omega)) (fun _ => rfl)
      (fun k W => Below w.heap.size w W ∧ k ≤ l.length ∧ W.cell? ⟨M + 1, 0, none⟩ = some (.slice sa l.length cap) ∧ W.cell? ⟨w.heap.size, 0, none⟩ = some (.slice sa l.length cap) ∧ W.cell? ⟨w.heap.size + 1, 0, none⟩ = some (.bool false) ∧ W.cell? ⟨w.heap.size + 1 + 1, 0, none⟩ = some (.int .i64 0) ∧ W.cell? ⟨M, 0, none⟩ = some (.int .i64 s) ∧ W.frozen? ⟨w.heap.size + 1, 0, none⟩ = false ∧ W.frozen? ⟨w.heap.size + 1 + 1, 0, none⟩ = false ∧ Hid (∀ j, j < k → cvB l s j = false))
      (fun cd k W => cd = .ret ∧ convB l = false ∧ Below w.heap.size w W ∧ W.cell? ⟨w.heap.size + 1, 0, none⟩ = some (.bool false) ∧ W.cell? ⟨w.heap.size + 1 + 1, 0, none⟩ = some (.int .i64 0))
      (fun k W ⟨hB, hk, f0, f1, f2, f3, f4, z0, z1, u0⟩ => ⟨f0, HP.out.below hB⟩)
      (fun k W W' ⟨hB, hk, f0, f1, f2, f3, f4, z0, z1, u0⟩ hb => ⟨hB.trans (hb.mono (by omega)), hk, (hb.cell (p := ⟨M + 1, 0, none⟩) (by dsimp only; omega)).trans f0, (hb.cell (p := ⟨w.heap.size, 0, none⟩) (by dsimp only; omega)).trans f1, (hb.cell (p := ⟨w.heap.size + 1, 0, none⟩) (by dsimp only; omega)).trans f2, (hb.cell (p := ⟨w.heap.size + 1 + 1, 0, none⟩) (by dsimp only; omega)).trans f3, (hb.cell (p := ⟨M, 0, none⟩) (by dsimp only; omega)).trans f4, (hb.frozen (p := ⟨w.heap.size + 1, 0, none⟩) (by dsimp only; omega)).trans z0, (hb.frozen (p := ⟨w.heap.size + 1 + 1, 0, none⟩) (by dsimp only; omega)).trans z1, u0⟩)
      (fun cd k W W' ⟨e1, e2, hB, f2, f3⟩ hb => ⟨e1, e2, hB.trans (hb.mono (by omega)), (hb.cell (p := ⟨w.heap.size + 1, 0, none⟩) (by dsimp only; omega)).trans f2, (hb.cell (p := ⟨w.heap.size + 1 + 1, 0, none⟩) (by dsimp only; omega)).trans f3⟩)
      (fun e => by cases e)
      ?start
      (fun k a' W => ∃ (y4 : Value) (y9 : Value) (y10 : Value) (y11 : Value) (y12 : Value) (y13 : Value) (y14 : Value) (y15 : Value) (y16 : Value) (g7 : Nat), a' = { tmps := #[.slice sa l.length cap, .pointer (some ⟨w.heap.size, 0, none⟩), .pointer (some ⟨w.heap.size + 1, 0, none⟩), .pointer (some ⟨w.heap.size + 1 + 1, 0, none⟩), y4, .pointer (some ⟨M, 0, none⟩), .int .i64 k, .pointer (some ⟨g7, 0, none⟩), undef, y9, y10, y11, y12, y13, y14, y15, y16, .func (.func 103) #[] #[.pointer (some ⟨M + 1, 0, none⟩)], .int .i64 k, .agg #[.int .i64 (cor l k).1, .int .i64 (cor l k).2, .int .i64 (cor l (k + 1)).1, .int .i64 (cor l (k + 1)).2], undef, undef, undef, undef, undef, undef, undef, undef, undef, undef, undef, undef, undef, undef, undef, undef, undef, undef, undef, undef, undef, undef], defers := [] } ∧ W.cell? ⟨g7, 0, none⟩ = some (.int .i64 (cor l k).1) ∧ W.cell? ⟨g7, 1, none⟩ = some (.int .i64 (cor l k).2) ∧ W.cell? ⟨g7, 2, none⟩ = some (.int .i64 (cor l (k + 1)).1) ∧ W.cell? ⟨g7, 3, none⟩ = some (.int .i64 (cor l (k + 1)).2) ∧ W0.heap.size ≤ g7 ∧ g7 < W.heap.size)
      (fun k a' W l o hl hr ⟨y4, y9, y10, y11, y12, y13, y14, y15, y16, g7, ha, c0, c1, c2, c3, lo7, hi7⟩ => ⟨y4, y9, y10, y11, y12, y13, y14, y15, y16, g7, ha, cell_putObj_loop hr c0, cell_putObj_loop hr c1, cell_putObj_loop hr c2, cell_putObj_loop hr c3, lo7, by simpa [World.putObj] using hi7⟩) ?assign ?body ?done ?stop
    case assign =>
      rintro l' k W K hsW ⟨hB, hk, f0, f1, f2, f3, f4, z0, z1, u0⟩ hm hK
      have hkl := hm _ rfl
      gi_wp2
      have hb3 := below_new (Below.refl W.heap.size W) (.cells #[.int .i64 (cor l k).1, .int .i64 (cor l k).2, .int .i64 (cor l (k + 1)).1, .int .i64 (cor l (k + 1)).2] 56)
      exact hK _ _ (keeps_of_below hb3) ⟨hB.trans (hb3.mono (by omega)), hk, (hb3.cell (p := ⟨M + 1, 0, none⟩) (by dsimp only; omega)).trans f0, (hb3.cell (p := ⟨w.heap.size, 0, none⟩) (by dsimp only; omega)).trans f1, (hb3.cell (p := ⟨w.heap.size + 1, 0, none⟩) (by dsimp only; omega)).trans f2, (hb3.cell (p := ⟨w.heap.size + 1 + 1, 0, none⟩) (by dsimp only; omega)).trans f3, (hb3.cell (p := ⟨M, 0, none⟩) (by dsimp only; omega)).trans f4, (hb3.frozen (p := ⟨w.heap.size + 1, 0, none⟩) (by dsimp only; omega)).trans z0, (hb3.frozen (p := ⟨w.heap.size + 1 + 1, 0, none⟩) (by dsimp only; omega)).trans z1, u0⟩
        ⟨_, _, _, _, _, _, _, _, _, _, rfl, by simp [go_sem], by simp [go_sem], by simp [go_sem], by simp [go_sem], by first | omega | (simp <;> omega), by first | omega | (simp <;> omega)⟩
    case body =>
      rintro l' k a' W hl hr hsW ⟨hB, hk, f0, f1, f2, f3, f4, z0, z1, u0⟩ ⟨y4, y9, y10, y11, y12, y13, y14, y15, y16, g7, rfl, c0, c1, c2, c3, lo7, hi7⟩ hm
      have hkl := hm _ rfl
      clear hm
      have HA := HBD.out k
      have HB := HBD.out (k + 1)
      have HC := HBD.out (k + 2)
      obtain ⟨b0, o0, hsa, hb20, _, _⟩ := HP.out.cellAt hkl
      subst hsa
      obtain ⟨m, hm1, hm2, hm3⟩ := cor_at (l := l) k 2 (by omega)
      obtain ⟨b0', o0', he', _, d0, d1⟩ := (HP.out.below hB).cellAt hm2
      cases he'
      rw [← hm3] at d0 d1
      have hm1' : ((k : Int) + 2) % (l.length : Int) = (m : Int) := hm1
      have hr1 : ((k : Int) + 2).tmod (l.length : Int) = (m : Int) := by rw [Int.tmod_eq_emod_of_nonneg (by omega)]; exact hm1
      have hl0 : ¬ l = [] := fun e => by rw [e] at h3; simp at h3
      have hw1 : IntKind.i64.wrap ((k : Int) + 2) = (k : Int) + 2 := IntWalk.i64_in _ (by omega)
      clear hm1 hm3
      have HCV : Hid (cvB l s k = ((turn (cor l k) (cor l (k + 1)) (cor l (k + 2)) != 0) && (decide (0 < turn (cor l k) (cor l (k + 1)) (cor l (k + 2))) != decide (0 < s)))) := rfl
      have HNO := Lib.hid (conv_no HS.out hkl)
      obtain ⟨c, hc⟩ : ∃ c, cvB l s k = c := ⟨_, rfl⟩
      have HCC := Lib.hid hc
      clear hc
      generalize cor l k = pa at *
      generalize cor l (k + 1) = pb at *
      generalize cor l (k + 2) = pc at *
      obtain ⟨t, ht⟩ : ∃ t, turn pa pb pc = t := ⟨_, rfl⟩
      have HT := Lib.hid ht
      rw [ht] at HCV
      clear ht
      have hzw : M + 2 ≤ W.heap.size := by omega
      by_cases htz : t = 0
      · by_cases hsp : 0 < s
        · skip
          subst htz
          have x1 : ((0 : Int) != 0) = false := rfl
          have x2 : ((0 : Int) == 0) = true := rfl
          have x3 : decide ((0 : Int) < 0) = false := rfl
          have x4 : decide (0 < s) = true := decide_eq_true (by omega)
          have hcc : c = false := by rw [← HCC.out, HCV.out, x1, x3, x4]; rfl
          have HCE := Lib.hid hcc
          clear hcc
          gi_wp2
          refine wpIn_region_quiet_tail (asksNone_round _) 12 mixed (by kernel_rfl) (by kernel_rfl) ?_
          simp only [List.take_succ_cons, List.take_zero, List.drop_succ_cons, List.drop_zero]
          repeat (go_big_quiet_step (fail))
          refine wpQuiet_nil ?_
          gi_wp2_with (gi_at_call 66; refine Calls.useR ((turn_is _ HA HB HC HT.out).use ?_); intro w1 hb1 hz1 hc1 hf1; (try simp at hz1); have G0 := (hc1 (M + 1) 0 (by first | omega | (simp <;> omega))).trans f0; have G1 := (hc1 (w.heap.size) 0 (by first | omega | (simp <;> omega))).trans f1; have G2 := (hc1 (w.heap.size + 1) 0 (by first | omega | (simp <;> omega))).trans f2; have G3 := (hc1 (w.heap.size + 1 + 1) 0 (by first | omega | (simp <;> omega))).trans f3; have G4 := (hc1 (M) 0 (by first | omega | (simp <;> omega))).trans f4; have G5 := (hf1 (w.heap.size + 1) 0 (by first | omega | (simp <;> omega))).trans z0; have G6 := (hf1 (w.heap.size + 1 + 1) 0 (by first | omega | (simp <;> omega))).trans z1; clear hc1 hf1)
          exact ⟨keeps_of_below (below_tail hb1 (below_draw (Below.refl _ _))), below_tail hb1 (below_draw hB), by omega, G0, G1, G2, G3, G4, G5, G6, fun j hj => (Nat.lt_succ_iff_lt_or_eq.1 hj).elim (u0.out j) (fun e => by subst e; exact HCC.out.trans HCE.out)⟩
        · skip
          subst htz
          have x1 : ((0 : Int) != 0) = false := rfl
          have x2 : ((0 : Int) == 0) = true := rfl
          have x3 : decide ((0 : Int) < 0) = false := rfl
          have x4 : decide (0 < s) = false := decide_eq_false (by omega)
          have hcc : c = false := by rw [← HCC.out, HCV.out, x1, x3, x4]; rfl
          have HCE := Lib.hid hcc
          clear hcc
          gi_wp2
          refine wpIn_region_quiet_tail (asksNone_round _) 12 mixed (by kernel_rfl) (by kernel_rfl) ?_
          simp only [List.take_succ_cons, List.take_zero, List.drop_succ_cons, List.drop_zero]
          repeat (go_big_quiet_step (fail))
          refine wpQuiet_nil ?_
          gi_wp2_with (gi_at_call 66; refine Calls.useR ((turn_is _ HA HB HC HT.out).use ?_); intro w1 hb1 hz1 hc1 hf1; (try simp at hz1); have G0 := (hc1 (M + 1) 0 (by first | omega | (simp <;> omega))).trans f0; have G1 := (hc1 (w.heap.size) 0 (by first | omega | (simp <;> omega))).trans f1; have G2 := (hc1 (w.heap.size + 1) 0 (by first | omega | (simp <;> omega))).trans f2; have G3 := (hc1 (w.heap.size + 1 + 1) 0 (by first | omega | (simp <;> omega))).trans f3; have G4 := (hc1 (M) 0 (by first | omega | (simp <;> omega))).trans f4; have G5 := (hf1 (w.heap.size + 1) 0 (by first | omega | (simp <;> omega))).trans z0; have G6 := (hf1 (w.heap.size + 1 + 1) 0 (by first | omega | (simp <;> omega))).trans z1; clear hc1 hf1)
          exact ⟨keeps_of_below (below_tail hb1 (below_draw (Below.refl _ _))), below_tail hb1 (below_draw hB), by omega, G0, G1, G2, G3, G4, G5, G6, fun j hj => (Nat.lt_succ_iff_lt_or_eq.1 hj).elim (u0.out j) (fun e => by subst e; exact HCC.out.trans HCE.out)⟩
      · by_cases htp : 0 < t
        · by_cases hsp : 0 < s
          · skip
            have x1 : (t != 0) = true := by simpa using (show ¬ t = 0 by omega)
            have x2 : (t == 0) = false := by simpa using (show ¬ t = 0 by omega)
            have x3 : decide (0 < t) = true := decide_eq_true (by omega)
            have x4 : decide (0 < s) = true := decide_eq_true (by omega)
            have hcc : c = false := by rw [← HCC.out, HCV.out, x1, x3, x4]; rfl
            have HCE := Lib.hid hcc
            clear hcc
            gi_wp2
            refine wpIn_region_quiet_tail (asksNone_round _) 12 mixed (by kernel_rfl) (by kernel_rfl) ?_
            simp only [List.take_succ_cons, List.take_zero, List.drop_succ_cons, List.drop_zero]
            repeat (go_big_quiet_step (fail))
            refine wpQuiet_nil ?_
            gi_wp2_with (gi_at_call 66; refine Calls.useR ((turn_is _ HA HB HC HT.out).use ?_); intro w1 hb1 hz1 hc1 hf1; (try simp at hz1); have G0 := (hc1 (M + 1) 0 (by first | omega | (simp <;> omega))).trans f0; have G1 := (hc1 (w.heap.size) 0 (by first | omega | (simp <;> omega))).trans f1; have G2 := (hc1 (w.heap.size + 1) 0 (by first | omega | (simp <;> omega))).trans f2; have G3 := (hc1 (w.heap.size + 1 + 1) 0 (by first | omega | (simp <;> omega))).trans f3; have G4 := (hc1 (M) 0 (by first | omega | (simp <;> omega))).trans f4; have G5 := (hf1 (w.heap.size + 1) 0 (by first | omega | (simp <;> omega))).trans z0; have G6 := (hf1 (w.heap.size + 1 + 1) 0 (by first | omega | (simp <;> omega))).trans z1; clear hc1 hf1)
            exact ⟨keeps_of_below (below_tail hb1 (below_draw (Below.refl _ _))), below_tail hb1 (below_draw hB), by omega, G0, G1, G2, G3, G4, G5, G6, fun j hj => (Nat.lt_succ_iff_lt_or_eq.1 hj).elim (u0.out j) (fun e => by subst e; exact HCC.out.trans HCE.out)⟩
          · skip
            have x1 : (t != 0) = true := by simpa using (show ¬ t = 0 by omega)
            have x2 : (t == 0) = false := by simpa using (show ¬ t = 0 by omega)
            have x3 : decide (0 < t) = true := decide_eq_true (by omega)
            have x4 : decide (0 < s) = false := decide_eq_false (by omega)
            have hcc : c = true := by rw [← HCC.out, HCV.out, x1, x3, x4]; rfl
            have HCE := Lib.hid hcc
            clear hcc
            gi_wp2
            refine wpIn_region_quiet_tail (asksNone_round _) 12 mixed (by kernel_rfl) (by kernel_rfl) ?_
            simp only [List.take_succ_cons, List.take_zero, List.drop_succ_cons, List.drop_zero]
            repeat (go_big_quiet_step (fail))
            refine wpQuiet_nil ?_
            gi_wp2_with (gi_at_call 66; refine Calls.useR ((turn_is _ HA HB HC HT.out).use ?_); intro w1 hb1 hz1 hc1 hf1; (try simp at hz1); have G0 := (hc1 (M + 1) 0 (by first | omega | (simp <;> omega))).trans f0; have G1 := (hc1 (w.heap.size) 0 (by first | omega | (simp <;> omega))).trans f1; have G2 := (hc1 (w.heap.size + 1) 0 (by first | omega | (simp <;> omega))).trans f2; have G3 := (hc1 (w.heap.size + 1 + 1) 0 (by first | omega | (simp <;> omega))).trans f3; have G4 := (hc1 (M) 0 (by first | omega | (simp <;> omega))).trans f4; have G5 := (hf1 (w.heap.size + 1) 0 (by first | omega | (simp <;> omega))).trans z0; have G6 := (hf1 (w.heap.size + 1 + 1) 0 (by first | omega | (simp <;> omega))).trans z1; clear hc1 hf1)
            have hcv : convB l = false := HNO.out (HCC.out.trans HCE.out)
            refine ⟨((keeps_of_below (below_tail hb1 (below_draw (Below.refl _ _)))).trans (KeepsOthers.setCell _ _ _)).trans (KeepsOthers.setCell _ _ _), rfl, hcv, ?_, ?_, ?_⟩
            · exact below_set (below_set (below_tail hb1 (below_draw hB)) (by dsimp only; omega) _) (by dsimp only; omega) _
            · rw [World.cell?_setCell_other _ _ _ _ (by simp)]; exact World.cell?_setCell_same' _ _ _ (by rw [G2]; rfl)
            · exact World.cell?_setCell_same' _ _ _ (by rw [World.cell?_setCell_other _ _ _ _ (by simp), G3]; rfl)
        · by_cases hsp : 0 < s
          · skip
            have x1 : (t != 0) = true := by simpa using (show ¬ t = 0 by omega)
            have x2 : (t == 0) = false := by simpa using (show ¬ t = 0 by omega)
            have x3 : decide (0 < t) = false := decide_eq_false (by omega)
            have x4 : decide (0 < s) = true := decide_eq_true (by omega)
            have hcc : c = true := by rw [← HCC.out, HCV.out, x1, x3, x4]; rfl
            have HCE := Lib.hid hcc
            clear hcc
            gi_wp2
            refine wpIn_region_quiet_tail (asksNone_round _) 12 mixed (by kernel_rfl) (by kernel_rfl) ?_
            simp only [List.take_succ_cons, List.take_zero, List.drop_succ_cons, List.drop_zero]
            repeat (go_big_quiet_step (fail))
            refine wpQuiet_nil ?_
            gi_wp2_with (gi_at_call 66; refine Calls.useR ((turn_is _ HA HB HC HT.out).use ?_); intro w1 hb1 hz1 hc1 hf1; (try simp at hz1); have G0 := (hc1 (M + 1) 0 (by first | omega | (simp <;> omega))).trans f0; have G1 := (hc1 (w.heap.size) 0 (by first | omega | (simp <;> omega))).trans f1; have G2 := (hc1 (w.heap.size + 1) 0 (by first | omega | (simp <;> omega))).trans f2; have G3 := (hc1 (w.heap.size + 1 + 1) 0 (by first | omega | (simp <;> omega))).trans f3; have G4 := (hc1 (M) 0 (by first | omega | (simp <;> omega))).trans f4; have G5 := (hf1 (w.heap.size + 1) 0 (by first | omega | (simp <;> omega))).trans z0; have G6 := (hf1 (w.heap.size + 1 + 1) 0 (by first | omega | (simp <;> omega))).trans z1; clear hc1 hf1)
            have hcv : convB l = false := HNO.out (HCC.out.trans HCE.out)
            refine ⟨((keeps_of_below (below_tail hb1 (below_draw (Below.refl _ _)))).trans (KeepsOthers.setCell _ _ _)).trans (KeepsOthers.setCell _ _ _), rfl, hcv, ?_, ?_, ?_⟩
            · exact below_set (below_set (below_tail hb1 (below_draw hB)) (by dsimp only; omega) _) (by dsimp only; omega) _
            · rw [World.cell?_setCell_other _ _ _ _ (by simp)]; exact World.cell?_setCell_same' _ _ _ (by rw [G2]; rfl)
            · exact World.cell?_setCell_same' _ _ _ (by rw [World.cell?_setCell_other _ _ _ _ (by simp), G3]; rfl)
          · skip
            have x1 : (t != 0) = true := by simpa using (show ¬ t = 0 by omega)
            have x2 : (t == 0) = false := by simpa using (show ¬ t = 0 by omega)
            have x3 : decide (0 < t) = false := decide_eq_false (by omega)
            have x4 : decide (0 < s) = false := decide_eq_false (by omega)
            have hcc : c = false := by rw [← HCC.out, HCV.out, x1, x3, x4]; rfl
            have HCE := Lib.hid hcc
            clear hcc
            gi_wp2
            refine wpIn_region_quiet_tail (asksNone_round _) 12 mixed (by kernel_rfl) (by kernel_rfl) ?_
            simp only [List.take_succ_cons, List.take_zero, List.drop_succ_cons, List.drop_zero]
            repeat (go_big_quiet_step (fail))
            refine wpQuiet_nil ?_
            gi_wp2_with (gi_at_call 66; refine Calls.useR ((turn_is _ HA HB HC HT.out).use ?_); intro w1 hb1 hz1 hc1 hf1; (try simp at hz1); have G0 := (hc1 (M + 1) 0 (by first | omega | (simp <;> omega))).trans f0; have G1 := (hc1 (w.heap.size) 0 (by first | omega | (simp <;> omega))).trans f1; have G2 := (hc1 (w.heap.size + 1) 0 (by first | omega | (simp <;> omega))).trans f2; have G3 := (hc1 (w.heap.size + 1 + 1) 0 (by first | omega | (simp <;> omega))).trans f3; have G4 := (hc1 (M) 0 (by first | omega | (simp <;> omega))).trans f4; have G5 := (hf1 (w.heap.size + 1) 0 (by first | omega | (simp <;> omega))).trans z0; have G6 := (hf1 (w.heap.size + 1 + 1) 0 (by first | omega | (simp <;> omega))).trans z1; clear hc1 hf1)
            exact ⟨keeps_of_below (below_tail hb1 (below_draw (Below.refl _ _))), below_tail hb1 (below_draw hB), by omega, G0, G1, G2, G3, G4, G5, G6, fun j hj => (Nat.lt_succ_iff_lt_or_eq.1 hj).elim (u0.out j) (fun e => by subst e; exact HCC.out.trans HCE.out)⟩

    case start => exact ⟨hB0, Nat.zero_le _, e6, e0, e1, e2, e5, e3, e4, fun j hj => absurd hj (by omega)⟩
    case done =>
      rintro m D W hm hD ⟨hB, hk, f0, f1, f2, f3, f4, z0, z1, u0⟩ hK
      cases hm
      have HCV := Lib.hid (conv_yes HS.out u0.out)
      clear u0
      have hK' : ((W.setCell ⟨w.heap.size + 1, 0, none⟩ (.bool true)).setCell ⟨w.heap.size + 1 + 1, 0, none⟩ (.int .i64 0)).heap[D]? = some (.deferred (some [])) := by rw [Below.heap_setCell _ _ _ _ (by dsimp only; omega), Below.heap_setCell _ _ _ _ (by dsimp only; omega)]; exact hK
      gi_wp2
      refine ⟨by simp, .inl ⟨_, _, rfl, run_takeDeferred hK', ?_⟩⟩
      have hBB : Below w.heap.size w ((W.setCell ⟨w.heap.size + 1, 0, none⟩ (.bool true)).setCell ⟨w.heap.size + 1 + 1, 0, none⟩ (.int .i64 0)) := below_set (below_set hB (by dsimp only; omega) _) (by dsimp only; omega) _
      have hP := below_obj (B := w.heap.size) (D := D) (W := ((W.setCell ⟨w.heap.size + 1, 0, none⟩ (.bool true)).setCell ⟨w.heap.size + 1 + 1, 0, none⟩ (.int .i64 0))) (.deferred none) (by omega) hBB.size
      have hr2 : (((W.setCell ⟨w.heap.size + 1, 0, none⟩ (.bool true)).setCell ⟨w.heap.size + 1 + 1, 0, none⟩ (.int .i64 0)).putObj D (.deferred none)).cell? ⟨w.heap.size + 1, 0, none⟩ = some (.bool true) := by
        refine cell_putObj_def ⟨_, hK'⟩ ?_
        rw [World.cell?_setCell_other _ _ _ _ (by simp)]
        exact World.cell?_setCell_same' _ _ _ (by rw [f2]; rfl)
      have hr3 : (((W.setCell ⟨w.heap.size + 1, 0, none⟩ (.bool true)).setCell ⟨w.heap.size + 1 + 1, 0, none⟩ (.int .i64 0)).putObj D (.deferred none)).cell? ⟨w.heap.size + 1 + 1, 0, none⟩ = some (.int .i64 0) := by
        refine cell_putObj_def ⟨_, hK'⟩ ?_
        exact World.cell?_setCell_same' _ _ _ (by rw [World.cell?_setCell_other _ _ _ _ (by simp), f3]; rfl)
      exact ⟨.tuple #[.bool true, .int .i64 0], by simp [results, Try.f52, go_sem, hr2, hr3], by rw [HR.out, if_pos HE.out, HCV.out, HE.out], hBB.trans hP⟩
    case stop =>
      rintro D cd k W hD ⟨rfl, e2, hB, f2, f3⟩ hK
      have HCV := Lib.hid e2
      clear e2
      gi_wp2
      refine ⟨by simp, .inl ⟨_, _, rfl, run_takeDeferred hK, ?_⟩⟩
      have hP := below_obj (B := w.heap.size) (D := D) (W := W) (.deferred none) (by omega) hB.size
      have hr2 : (W.putObj D (.deferred none)).cell? ⟨w.heap.size + 1, 0, none⟩ = some (.bool false) := cell_putObj_def ⟨_, hK⟩ f2
      have hr3 : (W.putObj D (.deferred none)).cell? ⟨w.heap.size + 1 + 1, 0, none⟩ = some (.int .i64 0) := cell_putObj_def ⟨_, hK⟩ f3
      exact ⟨.tuple #[.bool false, .int .i64 0], by simp [results, Try.f52, go_sem, hr2, hr3], by rw [HR.out, if_pos HE.out, HCV.out, HE.out], hB.trans hP⟩
  · have h1 : (e == 0) = false := by simpa using hz
    have h2 : (e != 0) = true := by simpa using hz
    have HZ := Lib.hid hz
    clear hz he
    refine (callsIn_wide (n := 9)).1 ?_
    refine callsIn_of_wp_marks Try.func52 rfl trivial ?_ rfl
    simp only [Try.ntmps52, List.size_toArray, List.length_cons, List.length_nil, Nat.reduceAdd, Nat.reduceSub, Array.replicate_succ, Array.replicate_zero, List.push_toArray, List.append_toArray, List.nil_append, List.cons_append]
    gi_wp2_with (gi_at_call 27; refine callsIn_wide.2 ((validate_is _ (HP.out.below (by (repeat' (first | exact Below.refl _ _ | assumption | refine below_new ?_ _ | refine below_draw ?_ | refine below_tail (by assumption) ?_ | refine below_set ?_ (by first | omega | (simp <;> omega)) _)))) HE.out).use ?_); intro w1 hb1 hz1 hc1 hf1; (try simp at hz1); have hx0 := hc1 w.heap.size 0 (by simp <;> omega); have hx1 := hc1 (w.heap.size + 1) 0 (by simp <;> omega); have hx2 := hc1 (w.heap.size + 1 + 1) 0 (by simp <;> omega); have hy1 := hf1 (w.heap.size + 1) 0 (by simp <;> omega); have hy2 := hf1 (w.heap.size + 1 + 1) 0 (by simp <;> omega); clear hc1 hf1; simp [go_sem] at hx0 hx1 hx2 hy1 hy2)
    have hr2 : ((w1.setCell ⟨w.heap.size + 1, 0, none⟩ (.bool false)).setCell ⟨w.heap.size + 1 + 1, 0, none⟩ (.int .i64 e)).cell? ⟨w.heap.size + 1, 0, none⟩ = some (.bool false) := by
      rw [World.cell?_setCell_other _ _ _ _ (by simp)]
      exact World.cell?_setCell_same' _ _ _ (by rw [hx1]; rfl)
    have hr3 : ((w1.setCell ⟨w.heap.size + 1, 0, none⟩ (.bool false)).setCell ⟨w.heap.size + 1 + 1, 0, none⟩ (.int .i64 e)).cell? ⟨w.heap.size + 1 + 1, 0, none⟩ = some (.int .i64 e) := World.cell?_setCell_same' _ _ _ (by rw [World.cell?_setCell_other _ _ _ _ (by simp), hx2]; rfl)
    exact ⟨.tuple #[.bool false, .int .i64 e], by simp [results, Try.f52, go_sem, hr2, hr3], by rw [HR.out, if_neg (by rw [HE.out]; exact HZ.out), HE.out], by (repeat' (first | exact Below.refl _ _ | assumption | refine below_new ?_ _ | refine below_draw ?_ | refine below_tail (by assumption) ?_ | refine below_set ?_ (by first | omega | (simp <;> omega)) _))⟩

end Go.Proofs.Ythiemglckmociaa
