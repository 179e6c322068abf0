/- What Validate of package plot gives where no corner lies twice. Conditions: the list lies in memory as said. -/
import Derived.Test.YthiemglckmociaaPtValid0
namespace Go.Proofs.Ythiemglckmociaa
open Go.RowKit Go.Shelf
attribute [local go_sem] Oper.semAt_some wide_fn

def ValidI (pc : Int × Int) (b0 o0 n0 cap k m : Nat) (y : World) (v0 v1 v2 v3 v4 v5 v6 v7 v9 v10 v11 v12 v13 v14 v15 v16 v17 v18 v19 v20 v21 v22 v23 v24 v25 v26 v27 v28 v29 v30 v31 v32 v33 v34 v35 v36 v37 v38 v39 v47 v48 v49 v50 v51 v52 v53 v54 v55 v56 v57 v58 v59 v60 v61 v62 v63 v64 v65 v66 v67 v68 v69 v70 v71 v72 v73 v74 v75 v76 v77 v78 v79 v80 v81 v82 v83 : Value) (d : Nat → Bool) (a : Act) (x : World) : Prop :=
  ∃ u8 u40 u41 u42 u43 u44 u45 u46 : Value, a = ⟨#[v0, v1, v2, v3, v4, v5, v6, v7, u8, v9, v10, v11, v12, v13, v14, v15, v16, v17, v18, v19, v20, v21, v22, v23, v24, v25, v26, v27, v28, v29, v30, v31, v32, v33, v34, v35, v36, v37, v38, v39, u40, u41, u42, u43, u44, u45, u46, v47, v48, v49, v50, v51, v52, v53, v54, v55, v56, v57, v58, v59, v60, v61, v62, v63, v64, v65, v66, v67, v68, v69, v70, v71, v72, v73, v74, v75, v76, v77, v78, v79, v80, v81, v82, v83], []⟩ ∧
    (Below y.heap.size y x) ∧
    (d 0 = true → u40 = .slice (some ⟨b0, o0, none⟩) n0 cap) ∧
    (d 1 = true → u41 = .int .i64 (k : Nat)) ∧
    (d 2 = true → u42 = .int .i64 ((k : Int) + 2)) ∧
    (d 3 = true → u43 = .int .i64 (n0 : Nat)) ∧
    (d 4 = true → u44 = .int .i64 (m : Nat)) ∧
    (d 5 = true → u45 = .pointer (some ⟨b0, o0 + m * 2, none⟩)) ∧
    (d 6 = true → u46 = .agg #[.int .i64 pc.1, .int .i64 pc.2]) ∧
    (d 8 = true → d 7 = true) ∧
    (d 7 = true → ∃ (g : Nat) (cs : Nat → Value), u8 = .pointer (some ⟨g, 0, none⟩) ∧ y.heap.size ≤ g ∧ x.heap[g]? = some (.cells #[cs 0, cs 1] 32 (0, 0)) ∧ (d 8 = true → cs 0 = .int .i64 pc.1 ∧ cs 1 = .int .i64 pc.2))
set_option maxHeartbeats 4000000 in
set_option maxRecDepth 100000 in
theorem valid_rest (v : Value) (l : List (Int × Int)) (w : World) (h : PairsAt w v l) (h1 : 3 ≤ l.length) (h2 : l.length ≤ 10) (hr : rangedB l = true) (hd : dupB l = false) :
    Gives Try.prog 27 #[v] w (.int .i64 (vcode (crossBP l))) := by
  have HP := Lib.hid h
  obtain ⟨sa, cap, rfl, hlc, hcm, _⟩ := h
  unfold Gives
  have hbd : ∀ i, bdP (cor l i) := fun i => rng_bd hr i (by omega)
  have HBD := Lib.hid hbd
  clear hbd
  have d1 : decide ((l.length : Int) < 3) = false := decide_eq_false (by omega)
  have d2 : decide ((10 : Int) < l.length) = false := decide_eq_false (by omega)
  have hB0 : Below w.heap.size w ((w.alloc (.cells #[.slice sa l.length cap] 22)).alloc (.cells #[.int .i64 0] 25)) := by (repeat' (first | exact Below.refl _ _ | assumption | refine below_new ?_ _ | refine below_draw ?_ | refine below_tail (by assumption) ?_ | refine below_set ?_ (by first | omega | (simp <;> omega)) _))
  have HCF := Lib.hid (containsFunc_pts _ l 63 #[] (fun x => !(inR x)) _ (HP.out.below hB0) vrange_enters (fun x w' _ => rangeC_calls x w'))
  rw [any_inR, hr] at HCF
  clear hB0
  have HDU : Hid (dupB l = anyN (fun i => anyN (fun j => cor l i == cor l j) i) l.length) := rfl
  refine (callsIn_wide (n := 9)).1 ?_
  refine callsIn_of_wp_marks Try.func27 rfl trivial ?_ rfl
  simp only [Try.ntmps27, List.size_toArray, List.length_cons, List.length_nil, Nat.reduceAdd, Nat.reduceSub, Array.replicate_succ, Array.replicate_zero, List.push_toArray, List.append_toArray, List.nil_append, List.cons_append]
  gi_wp2_with (gi_at_call 62; refine (callsIn_wide.2 (HCF.out.use ?_)); intro w1 hb1 hz1 hc1 hf1; (try simp at hz1); have hx0 := hc1 w.heap.size 0 (by simp <;> omega); have hx1 := hc1 (w.heap.size + 1) 0 (by simp <;> omega); have hx2 := hf1 (w.heap.size + 1) 0 (by simp <;> omega); clear hc1 hf1)
  have hx0' : w1.cell? ⟨w.heap.size, 0, none⟩ = some (.slice sa l.length cap) := by rw [hx0]; simp [go_sem]
  have hx1' : w1.cell? ⟨w.heap.size + 1, 0, none⟩ = some (.int .i64 0) := by rw [hx1]; simp [go_sem]
  have hx2' : w1.frozen? ⟨w.heap.size + 1, 0, none⟩ = false := by rw [hx2]; simp [go_sem]
  have hB1 : Below w.heap.size w w1 := by (repeat' (first | exact Below.refl _ _ | assumption | refine below_new ?_ _ | refine below_draw ?_ | refine below_tail (by assumption) ?_ | refine below_set ?_ (by first | omega | (simp <;> omega)) _))
  clear hx0 hx1 hx2 hb1
  gi_loopw [23] (fun i wr => ∃ k : Nat, k ≤ l.length ∧ i = .int .i64 k ∧ Hid (noDup l k) ∧ Below w.heap.size w wr ∧ w.heap.size + 2 ≤ wr.heap.size ∧ wr.cell? ⟨w.heap.size, 0, none⟩ = some (.slice sa l.length cap) ∧ wr.cell? ⟨w.heap.size + 1, 0, none⟩ = some (.int .i64 0) ∧ wr.frozen? ⟨w.heap.size + 1, 0, none⟩ = false) (fun i _ => l.length - (intOf i).toNat)
  case atStart => exact ⟨0, Nat.zero_le _, rfl, fun i hi => absurd hi (by omega), hB1, by omega, hx0', hx1', hx2'⟩
  case round =>
    clear hx0' hx1' hx2' hB1 hz1
    obtain ⟨k, hk, rfl, u0, hB, hsz, f0, f1, z1⟩ := hrel
    by_cases hlt : k < l.length
    · have HP2 := HP.out.below hB
      obtain ⟨b0, o0, rfl, hb2, c0, c1⟩ := HP2.cellAt hlt
      have HPT := Lib.hid (HP2.take hk)
      clear HP2
      have HT := Lib.hid (take_contains hlt)
      obtain ⟨pa, hpa⟩ : ∃ p, gi l (0, 0) k = p := ⟨_, rfl⟩
      rw [hpa] at c0 c1
      have HPA := Lib.hid hpa
      clear hpa
      obtain ⟨db, hdb⟩ : ∃ b, anyN (fun j => cor l k == cor l j) k = b := ⟨_, rfl⟩
      have HDB := Lib.hid hdb
      clear hdb
      have hcon : (l.take k).contains pa = db := by rw [← HPA.out, HT.out, HDB.out]
      have HCN := Lib.hid hcon
      clear hcon
      gi_wp2
      obtain ⟨wa, hwa⟩ : ∃ wa, wa = wr.alloc (.cells #[.int .i64 pa.1, .int .i64 pa.2] 32) := ⟨_, rfl⟩
      have hbw : Below wr.heap.size wr wa := by rw [hwa]; exact below_new (Below.refl _ _) _
      have g0 : wa.cell? ⟨wr.heap.size, 0, none⟩ = some (.int .i64 pa.1) := by rw [hwa]; simp [go_sem]
      have g1 : wa.cell? ⟨wr.heap.size, 1, none⟩ = some (.int .i64 pa.2) := by rw [hwa]; simp [go_sem]
      replace f0 := (hbw.cell (p := ⟨w.heap.size, 0, none⟩) (by dsimp only; omega)).trans f0
      replace f1 := (hbw.cell (p := ⟨w.heap.size + 1, 0, none⟩) (by dsimp only; omega)).trans f1
      replace z1 := (hbw.frozen (p := ⟨w.heap.size + 1, 0, none⟩) (by dsimp only; omega)).trans z1
      have HPB := Lib.hid (HPT.out.below hbw)
      replace hB := below_tail hbw hB
      have hsa : wr.heap.size ≤ wa.heap.size := hbw.size
      rw [← hwa]
      clear hwa hbw
      have q0 := fun dr os => cell_regrown f0 dr os
      have q1 := fun dr os => cell_regrown g0 dr os
      have q2 := fun dr os => cell_regrown g1 dr os
      refine wpIn_wide.2 (region_q mixed (by kernel_rfl) ?_)
      repeat (go_big_quiet_step ((go_at_call 65; exact Calls.regrown_of (contains_is (HPB.out.below (below_regrown _ _ _)) HCN.out))))
      refine wpQuiet_nil ?_
      intro wq hbq
      replace f0 := (hbq.cell (p := ⟨w.heap.size, 0, none⟩) (by dsimp only; omega)).trans f0
      replace f1 := (hbq.cell (p := ⟨w.heap.size + 1, 0, none⟩) (by dsimp only; omega)).trans f1
      replace z1 := (hbq.frozen (p := ⟨w.heap.size + 1, 0, none⟩) (by dsimp only; omega)).trans z1
      clear q0 q1 q2 g0 g1
      have hsq : w.heap.size + 2 ≤ wq.heap.size := by have := hbq.size; omega
      replace hB := below_tail hbq hB
      clear hbq
      have hdf : db = false := by rw [← HDB.out]; exact anyN_none (HDU.out.symm.trans hd) k hlt
      subst hdf
      gi_wp2
      go_roundw
      case rel => exact ⟨k + 1, by omega, by go_num, fun i hi => (Nat.lt_succ_iff_lt_or_eq.1 hi).elim (u0.out i) (fun e => by subst e; exact HDB.out), hB, hsq, f0, f1, z1⟩
      case measure => simp [intOf]; omega
    · obtain rfl : k = l.length := by omega
      clear u0
      have hy0 : w.heap.size < wr.heap.size := by omega
      have hy1 : w.heap.size + 1 < wr.heap.size := by omega
      have HCB : Hid (crossBP l = anyN (fun i => spikeB l i || anyN (fun k => crossP l i k) l.length) l.length) := rfl
      gi_wp2_with (gi_at_call 56; refine (callsIn_wide.2 (sides_calls _ _ _ _)).mono ?_; rintro e w' ⟨rfl, rfl⟩)
      obtain ⟨M, hM⟩ : ∃ M, wr.heap.size = M := ⟨_, rfl⟩
      obtain ⟨W0, hW0⟩ : ∃ W0, ((wr.alloc (.cells #[.int .i64 l.length] 3)).alloc (.cells #[.slice sa l.length cap] 22)) = W0 := ⟨_, rfl⟩
      rw [hW0]
      have hb0 : Below wr.heap.size wr W0 := by rw [← hW0]; exact below_new (below_new (Below.refl _ _) _) _
      have hsz0 : W0.heap.size = M + 2 := by rw [← hW0]; simp [go_sem, hM]
      have e4 : W0.cell? ⟨M, 0, none⟩ = some (.int .i64 l.length) := by rw [← hW0, ← hM]; simp [go_sem]
      have e5 : W0.cell? ⟨M + 1, 0, none⟩ = some (.slice sa l.length cap) := by rw [← hW0, ← hM]; simp [go_sem]
      have hB0 := below_tail hb0 hB
      replace f0 := (hb0.cell (p := ⟨w.heap.size, 0, none⟩) (by dsimp only; omega)).trans f0
      replace f1 := (hb0.cell (p := ⟨w.heap.size + 1, 0, none⟩) (by dsimp only; omega)).trans f1
      replace z1 := (hb0.frozen (p := ⟨w.heap.size + 1, 0, none⟩) (by dsimp only; omega)).trans z1
      clear hb0 hW0
      rw [hM]
      rw [hM] at hsz hy0 hy1
      refine wide_rangeBox (gf := 103) (lb := #[.pointer (some ⟨M + 1, 0, none⟩)]) rfl (enters_of Try.func103 (by kernel_rfl) rfl) (sides_iter (M + 1) _ l (by omega) (by omega)) (fun _ => rfl)
        (fun k W => Below w.heap.size w W ∧ k ≤ l.length ∧ W.cell? ⟨M + 1, 0, none⟩ = some (.slice sa l.length cap) ∧ W.cell? ⟨w.heap.size, 0, none⟩ = some (.slice sa l.length cap) ∧ W.cell? ⟨w.heap.size + 1, 0, none⟩ = some (.int .i64 0) ∧ W.cell? ⟨M, 0, none⟩ = some (.int .i64 l.length) ∧ W.frozen? ⟨w.heap.size + 1, 0, none⟩ = false ∧ Hid (∀ i, i < k → (spikeB l i || anyN (fun j => crossP l i j) l.length) = false))
        (fun cd k W => cd = .ret ∧ crossBP l = true ∧ Below w.heap.size w W ∧ W.cell? ⟨w.heap.size + 1, 0, none⟩ = some (.int .i64 9))
        (fun k W ⟨hB, hk, f0, f1, f2, f3, z0, u0⟩ => ⟨f0, HP.out.below hB⟩)
        (fun k W W' ⟨hB, hk, f0, f1, f2, f3, z0, u0⟩ hb => ⟨hB.trans (hb.mono (by omega)), hk, (hb.cell (p := ⟨M + 1, 0, none⟩) (by dsimp only; omega)).trans f0, (hb.cell (p := ⟨w.heap.size, 0, none⟩) (by dsimp only; omega)).trans f1, (hb.cell (p := ⟨w.heap.size + 1, 0, none⟩) (by dsimp only; omega)).trans f2, (hb.cell (p := ⟨M, 0, none⟩) (by dsimp only; omega)).trans f3, (hb.frozen (p := ⟨w.heap.size + 1, 0, none⟩) (by dsimp only; omega)).trans z0, u0⟩)
        (fun cd k W W' ⟨e1, e2, hB, f2⟩ hb => ⟨e1, e2, hB.trans (hb.mono (by omega)), (hb.cell (p := ⟨w.heap.size + 1, 0, none⟩) (by dsimp only; omega)).trans f2⟩)
        (fun e => by cases e)
        ?start
        (fun k a' W => ∃ (y3 : Value) (y4 : Value) (y11 : Value) (y12 : Value) (y13 : Value) (y14 : Value) (y15 : Value) (y16 : Value) (y17 : Value) (y18 : Value) (y19 : Value) (y20 : Value) (y21 : Value) (y22 : Value) (y23 : Value) (y24 : Value) (y25 : Value) (y26 : Value) (y27 : Value) (y28 : Value) (y29 : Value) (y30 : Value) (y31 : Value) (y32 : Value) (y33 : Value) (y34 : Value) (y35 : Value) (y36 : Value) (y37 : Value) (g6 : Nat) (g7 : Nat), a' = { tmps := #[.slice sa l.length cap, .pointer (some ⟨w.heap.size, 0, none⟩), .pointer (some ⟨w.heap.size + 1, 0, none⟩), y3, y4, .pointer (some ⟨M, 0, none⟩), .pointer (some ⟨g6, 0, none⟩), .pointer (some ⟨g7, 0, none⟩), undef, undef, undef, y11, y12, y13, y14, y15, y16, y17, y18, y19, y20, y21, y22, y23, y24, y25, y26, y27, y28, y29, y30, y31, y32, y33, y34, y35, y36, y37, .int .i64 k, .agg #[.int .i64 (cor l k).1, .int .i64 (cor l k).2, .int .i64 (cor l (k + 1)).1, .int .i64 (cor l (k + 1)).2], undef, undef, undef, undef, undef, undef, undef, undef, undef, undef, undef, undef, undef, undef, undef, undef, undef, undef, undef, undef, undef, undef, undef, undef, undef, undef, undef, undef, undef, undef, undef, undef, undef, undef, undef, undef, undef, undef, undef, undef, undef, undef, undef, undef], defers := [] } ∧ W.cell? ⟨g6, 0, none⟩ = some (.int .i64 k) ∧ W.cell? ⟨g7, 0, none⟩ = some (.int .i64 (cor l k).1) ∧ W.cell? ⟨g7, 1, none⟩ = some (.int .i64 (cor l k).2) ∧ W.cell? ⟨g7, 2, none⟩ = some (.int .i64 (cor l (k + 1)).1) ∧ W.cell? ⟨g7, 3, none⟩ = some (.int .i64 (cor l (k + 1)).2) ∧ W0.heap.size ≤ g6 ∧ W0.heap.size ≤ g7 ∧ g6 < W.heap.size ∧ g7 < W.heap.size)
        (fun k a' W l o hl hr ⟨y3, y4, y11, y12, y13, y14, y15, y16, y17, y18, y19, y20, y21, y22, y23, y24, y25, y26, y27, y28, y29, y30, y31, y32, y33, y34, y35, y36, y37, g6, g7, ha, c0, c1, c2, c3, c4, lo6, lo7, hi6, hi7⟩ => ⟨y3, y4, y11, y12, y13, y14, y15, y16, y17, y18, y19, y20, y21, y22, y23, y24, y25, y26, y27, y28, y29, y30, y31, y32, y33, y34, y35, y36, y37, g6, g7, ha, cell_putObj_loop hr c0, cell_putObj_loop hr c1, cell_putObj_loop hr c2, cell_putObj_loop hr c3, cell_putObj_loop hr c4, lo6, lo7, by simpa [World.putObj] using hi6, by simpa [World.putObj] using hi7⟩) ?assign ?body ?done ?stop
      case assign =>
        rintro l' k W K hsW ⟨hB, hk, f0, f1, f2, f3, z0, u0⟩ hm hK
        have hkl := hm _ rfl
        gi_wp2
        have hb3 := below_new (Below.refl W.heap.size W) (.cells #[.int .i64 k] 3)
        have hb4 := below_new (hb3) (.cells #[.int .i64 (cor l k).1, .int .i64 (cor l k).2, .int .i64 (cor l (k + 1)).1, .int .i64 (cor l (k + 1)).2] 56)
        exact hK _ _ (keeps_of_below hb4) ⟨hB.trans (hb4.mono (by omega)), hk, (hb4.cell (p := ⟨M + 1, 0, none⟩) (by dsimp only; omega)).trans f0, (hb4.cell (p := ⟨w.heap.size, 0, none⟩) (by dsimp only; omega)).trans f1, (hb4.cell (p := ⟨w.heap.size + 1, 0, none⟩) (by dsimp only; omega)).trans f2, (hb4.cell (p := ⟨M, 0, none⟩) (by dsimp only; omega)).trans f3, (hb4.frozen (p := ⟨w.heap.size + 1, 0, none⟩) (by dsimp only; omega)).trans z0, u0⟩
          ⟨_, _, _, _, _, _, _, _, _, _, _, _, _, _, _, _, _, _, _, _, _, _, _, _, _, _, _, _, _, _, _, rfl, by simp [go_sem], by simp [go_sem], by simp [go_sem], by simp [go_sem], by simp [go_sem], by first | omega | (simp <;> omega), by first | omega | (simp <;> omega), by first | omega | (simp <;> omega), by first | omega | (simp <;> omega)⟩
      case body =>
        rintro l' k a' W hl hr hsW ⟨hB, hk, f0, f1, f2, f3, z0, u0⟩ ⟨y3, y4, y11, y12, y13, y14, y15, y16, y17, y18, y19, y20, y21, y22, y23, y24, y25, y26, y27, y28, y29, y30, y31, y32, y33, y34, y35, y36, y37, g6, g7, rfl, c0, c1, c2, c3, c4, lo6, lo7, hi6, hi7⟩ hm
        have hkl := hm _ rfl
        clear hm
        have hl0 : w.heap.size < W.heap.size := by omega
        have hlM : M < W.heap.size := by omega
        have HP2 := HP.out.below hB
        obtain ⟨m, hm1, hm2, hm3⟩ := cor_at (l := l) k 2 (by omega)
        obtain ⟨b0, o0, hsa, hb2, d0, d1⟩ := HP2.cellAt hm2
        subst hsa
        clear HP2
        have hm1 : ((k : Int) + 2) % (l.length : Int) = (m : Int) := hm1
        have HA := HBD.out k
        have HB := HBD.out (k + 1)
        have HC := HBD.out (k + 2)
        have HCT := Lib.hid (anyN_true (f := fun i => spikeB l i || anyN (fun j => crossP l i j) l.length) hkl)
        have HSP : Hid (spikeB l k = backB (cor l (k + 1)) (cor l k) (cor l (k + 2))) := rfl
        have HCR : Hid (∀ j, crossP l k j = ((decide (k + 1 < j) && decide ((j + 1) % l.length ≠ k)) && touchB (cor l k) (cor l (k + 1)) (cor l j) (cor l (j + 1)))) := fun _ => rfl
        rw [← hm3] at d0 d1
        clear hm3
        generalize hpa : cor l k = pa at *
        generalize hpb : cor l (k + 1) = pb at *
        generalize hpc : cor l (k + 2) = pc at *
        have HPA := Lib.hid hpa
        have HPB := Lib.hid hpb
        clear hpa hpb hpc
        have J1 := f1
        have J3 := f3
        gi_wp2
        refine wpR_region_inv mixed (by kernel_rfl) (by kernel_rfl) (ValidI pc b0 o0 l.length cap k m W (.slice (some ⟨b0, o0, none⟩) l.length cap) (.pointer (some ⟨w.heap.size, 0, none⟩)) (.pointer (some ⟨w.heap.size + 1, 0, none⟩)) (y3) (y4) (.pointer (some ⟨M, 0, none⟩)) (.pointer (some ⟨g6, 0, none⟩)) (.pointer (some ⟨g7, 0, none⟩)) undef undef (y11) (y12) (y13) (y14) (y15) (y16) (y17) (y18) (y19) (y20) (y21) (y22) (y23) (y24) (y25) (y26) (y27) (y28) (y29) (y30) (y31) (y32) (y33) (y34) (y35) (y36) (y37) (.int .i64 k) (.agg #[.int .i64 pa.1, .int .i64 pa.2, .int .i64 pb.1, .int .i64 pb.2]) undef undef undef undef undef undef undef undef undef undef undef undef undef undef undef undef undef undef undef undef undef undef undef undef undef undef undef undef undef undef undef undef undef undef undef undef undef) ?h0 ?hstep ?hend
        case h0 =>
          unfold ValidI
          exact ⟨_, _, _, _, _, _, _, _, rfl, below_draw (Below.refl _ _), fun h => no_false h.symm, fun h => no_false h.symm, fun h => no_false h.symm, fun h => no_false h.symm, fun h => no_false h.symm, fun h => no_false h.symm, fun h => no_false h.symm, fun h => no_false h.symm, fun h => no_false h.symm⟩
        case hstep =>
          intro d a x hI i hi hdi hed
          unfold ValidI at hI
          obtain ⟨u8, u40, u41, u42, u43, u44, u45, u46, rfl, fb, f0, f1, f2, f3, f4, f5, f6, fc0, fx0⟩ := hI
          have hi' : i < 9 := hi
          clear hi
          rcases (show i = 0 ∨ i = 1 ∨ i = 2 ∨ i = 3 ∨ i = 4 ∨ i = 5 ∨ i = 6 ∨ i = 7 ∨ i = 8 by omega) with rfl | rfl | rfl | rfl | rfl | rfl | rfl | rfl | rfl
          · skip
            clear hed
            have k0 : x.cell? ⟨w.heap.size, 0, none⟩ = some (.slice (some ⟨b0, o0, none⟩) l.length cap) := (fb.cell (p := ⟨w.heap.size, 0, none⟩) hl0).trans J1
            refine wpOp_step rfl (fun K hK => ?_)
            go_simp
            (try (refine hK _ _ ?_; clear hK K))
            unfold ValidI
            refine ⟨_, _, _, _, _, _, _, _, rfl, ?_⟩
            exact ⟨fb,
              (by first | exact fun _ => rfl | exact f0),
              f1,
              f2,
              f3,
              f4,
              f5,
              f6,
              fc0,
              fx0⟩
          · skip
            clear hed
            have k0 : x.cell? ⟨g6, 0, none⟩ = some (.int .i64 k) := (fb.cell (p := ⟨g6, 0, none⟩) hi6).trans c0
            refine wpOp_step rfl (fun K hK => ?_)
            go_simp
            (try (refine hK _ _ ?_; clear hK K))
            unfold ValidI
            refine ⟨_, _, _, _, _, _, _, _, rfl, ?_⟩
            exact ⟨fb,
              f0,
              (by first | exact fun _ => rfl | exact f1),
              f2,
              f3,
              f4,
              f5,
              f6,
              fc0,
              fx0⟩
          · skip
            have e1 : d 1 = true := done_of hed (by kernel_rfl)
            clear hed
            have g1 := f1 e1
            subst g1
            have hw1 : IntKind.i64.wrap ((k : Int) + 2) = (k : Int) + 2 := IntWalk.i64_in _ (by omega)
            refine wpOp_step rfl (fun K hK => ?_)
            go_simp
            (try (refine hK _ _ ?_; clear hK K))
            unfold ValidI
            refine ⟨_, _, _, _, _, _, _, _, rfl, ?_⟩
            exact ⟨fb,
              f0,
              (by first | exact fun _ => rfl | exact f1),
              (by first | exact fun _ => rfl | exact f2),
              f3,
              f4,
              f5,
              f6,
              fc0,
              fx0⟩
          · skip
            clear hed
            have k0 : x.cell? ⟨M, 0, none⟩ = some (.int .i64 l.length) := (fb.cell (p := ⟨M, 0, none⟩) hlM).trans J3
            refine wpOp_step rfl (fun K hK => ?_)
            go_simp
            (try (refine hK _ _ ?_; clear hK K))
            unfold ValidI
            refine ⟨_, _, _, _, _, _, _, _, rfl, ?_⟩
            exact ⟨fb,
              f0,
              f1,
              f2,
              (by first | exact fun _ => rfl | exact f3),
              f4,
              f5,
              f6,
              fc0,
              fx0⟩
          · skip
            have e2 : d 2 = true := done_of hed (by kernel_rfl)
            have e3 : d 3 = true := done_of hed (by kernel_rfl)
            clear hed
            have g2 := f2 e2
            subst g2
            have g3 := f3 e3
            subst g3
            have hr1 : ((k : Int) + 2).tmod (l.length : Int) = (m : Int) := by rw [Int.tmod_eq_emod_of_nonneg (by omega)]; exact hm1
            have hl0 : ¬ l = [] := fun e => by rw [e] at h1; simp at h1
            refine wpOp_step rfl (fun K hK => ?_)
            go_simp
            (try (refine hK _ _ ?_; clear hK K))
            unfold ValidI
            refine ⟨_, _, _, _, _, _, _, _, rfl, ?_⟩
            exact ⟨fb,
              f0,
              f1,
              (by first | exact fun _ => rfl | exact f2),
              (by first | exact fun _ => rfl | exact f3),
              (by first | exact fun _ => rfl | exact f4),
              f5,
              f6,
              fc0,
              fx0⟩
          · skip
            have e0 : d 0 = true := done_of hed (by kernel_rfl)
            have e4 : d 4 = true := done_of hed (by kernel_rfl)
            clear hed
            have g0 := f0 e0
            subst g0
            have g4 := f4 e4
            subst g4
            refine wpOp_step rfl (fun K hK => ?_)
            go_simp
            (try (refine hK _ _ ?_; clear hK K))
            unfold ValidI
            refine ⟨_, _, _, _, _, _, _, _, rfl, ?_⟩
            exact ⟨fb,
              (by first | exact fun _ => rfl | exact f0),
              f1,
              f2,
              f3,
              (by first | exact fun _ => rfl | exact f4),
              (by first | exact fun _ => rfl | exact f5),
              f6,
              fc0,
              fx0⟩
          · skip
            have e5 : d 5 = true := done_of hed (by kernel_rfl)
            clear hed
            have g5 := f5 e5
            subst g5
            have k0 : x.cell? ⟨b0, o0 + m * 2, none⟩ = some (.int .i64 pc.1) := (fb.cell (p := ⟨b0, o0 + m * 2, none⟩) hb2).trans d0
            have k1 : x.cell? ⟨b0, o0 + m * 2 + 1, none⟩ = some (.int .i64 pc.2) := (fb.cell (p := ⟨b0, o0 + m * 2 + 1, none⟩) hb2).trans d1
            refine wpOp_step rfl (fun K hK => ?_)
            go_simp
            (try (refine hK _ _ ?_; clear hK K))
            unfold ValidI
            refine ⟨_, _, _, _, _, _, _, _, rfl, ?_⟩
            exact ⟨fb,
              f0,
              f1,
              f2,
              f3,
              f4,
              (by first | exact fun _ => rfl | exact f5),
              (by first | exact fun _ => rfl | exact f6),
              fc0,
              fx0⟩
          · skip
            clear hed
            have hb3 : Below x.heap.size x (x.alloc (.cells #[.int .i64 0, .int .i64 0] 32)) := (Below.refl _ _).alloc (Nat.le_refl _) _
            have hblk : Hid ((x.alloc (.cells #[.int .i64 0, .int .i64 0] 32)).heap[x.heap.size]? = some (.cells #[.int .i64 0, .int .i64 0] 32 (0, 0))) := World.alloc_heap_new _ _
            refine wpOp_step rfl (fun K hK => ?_)
            go_simp
            replace hblk := hblk.out
            (try (refine hK _ _ ?_; clear hK K))
            unfold ValidI
            refine ⟨_, _, _, _, _, _, _, _, rfl, ?_⟩
            exact ⟨below_tail hb3 fb,
              f0,
              f1,
              f2,
              f3,
              f4,
              f5,
              f6,
              fun _ => rfl,
              fun _ => ⟨_, fun i => if i = 0 then .int .i64 0 else .int .i64 0, rfl, fb.size, hblk, fun h => not_both (fc0 h) hdi⟩⟩
          · skip
            have e6 : d 6 = true := done_of hed (by kernel_rfl)
            have e7 : d 7 = true := done_of hed (by kernel_rfl)
            clear hed
            have g6 := f6 e6
            subst g6
            obtain ⟨g, cs, e7, hg, hx, h13⟩ := fx0 e7
            subst e7
            have k0 := cell_of_block hx 0
            have l0 := frozen_of_block hx 0
            have k1 := cell_of_block hx 1
            have l1 := frozen_of_block hx 1
            simp at k0 k1
            have hgr : Hid (x.grownBy ((x.setCell ⟨g, 0, none⟩ (.int .i64 pc.1)).setCell ⟨g, 1, none⟩ (.int .i64 pc.2)) (some g)) := (grown_trans (grown_set x ⟨g, 0, none⟩ (.int .i64 pc.1)) (grown_set (x.setCell ⟨g, 0, none⟩ (.int .i64 pc.1)) ⟨g, 1, none⟩ (.int .i64 pc.2)))
            have hblk : Hid (((x.setCell ⟨g, 0, none⟩ (.int .i64 pc.1)).setCell ⟨g, 1, none⟩ (.int .i64 pc.2)).heap[g]? = some (.cells #[.int .i64 pc.1, .int .i64 pc.2] 32 (0, 0))) := (block_set (block_set hx 0 _) 1 _)
            have HX := Lib.hid hx
            clear hx
            refine wpOp_step rfl (fun K hK => ?_)
            go_simp
            replace hgr := hgr.out
            replace hblk := hblk.out
            (try (refine hK _ _ ?_; clear hK K))
            unfold ValidI
            refine ⟨_, _, _, _, _, _, _, _, rfl, ?_⟩
            exact ⟨below_grow fb hgr (fun k hk => by cases hk; exact hg),
              f0,
              f1,
              f2,
              f3,
              f4,
              f5,
              (by first | exact fun _ => rfl | exact f6),
              fun _ => e7,
              fun _ => ⟨g, fun i => if i = 0 then .int .i64 pc.1 else .int .i64 pc.2, rfl, hg, hblk, fun _ => ⟨rfl, rfl⟩⟩⟩
        case hend =>
          intro d a x hI hall
          unfold ValidI at hI
          obtain ⟨u8, u40, u41, u42, u43, u44, u45, u46, rfl, fb, f0, f1, f2, f3, f4, f5, f6, fc0, fx0⟩ := hI
          have hl0 := hall 0 (show 0 < 9 by omega)
          have hl1 := hall 1 (show 1 < 9 by omega)
          have hl2 := hall 2 (show 2 < 9 by omega)
          have hl3 := hall 3 (show 3 < 9 by omega)
          have hl4 := hall 4 (show 4 < 9 by omega)
          have hl5 := hall 5 (show 5 < 9 by omega)
          have hl6 := hall 6 (show 6 < 9 by omega)
          have hl7 := hall 7 (show 7 < 9 by omega)
          have hl8 := hall 8 (show 8 < 9 by omega)
          have g0 := f0 hl0
          subst g0
          have g1 := f1 hl1
          subst g1
          have g2 := f2 hl2
          subst g2
          have g3 := f3 hl3
          subst g3
          have g4 := f4 hl4
          subst g4
          have g5 := f5 hl5
          subst g5
          have g6 := f6 hl6
          subst g6
          obtain ⟨ga, cs, e7, hga, hxa, h13⟩ := fx0 hl7
          obtain ⟨ex0, ex1⟩ := h13 hl8
          rw [ex0, ex1] at hxa
          subst e7
          clear h13 ex0 ex1
          have hsza := (Array.getElem?_eq_some_iff.1 hxa).1
          have qa0 := cell_of_block hxa 0
          have qfa0 := frozen_of_block hxa 0
          have qa1 := cell_of_block hxa 1
          have qfa1 := frozen_of_block hxa 1
          simp at qa0 qa1
          clear hxa
          clear f0 f1 f2 f3 f4 f5 f6 fc0 fx0
          clear hall hl0 hl1 hl2 hl3 hl4 hl5 hl6 hl7 hl8
          dsimp only
          clear J1 J3
          replace hB := below_tail fb hB
          have hkw := keeps_of_below fb
          replace f0 := (fb.cell (p := ⟨M + 1, 0, none⟩) (by dsimp only; omega)).trans f0
          replace f1 := (fb.cell (p := ⟨w.heap.size, 0, none⟩) (by dsimp only; omega)).trans f1
          replace f2 := (fb.cell (p := ⟨w.heap.size + 1, 0, none⟩) (by dsimp only; omega)).trans f2
          replace f3 := (fb.cell (p := ⟨M, 0, none⟩) (by dsimp only; omega)).trans f3
          replace z0 := (fb.frozen (p := ⟨w.heap.size + 1, 0, none⟩) (by dsimp only; omega)).trans z0
          replace c0 := (fb.cell (p := ⟨g6, 0, none⟩) hi6).trans c0
          replace c1 := (fb.cell (p := ⟨g7, 0, none⟩) hi7).trans c1
          replace c2 := (fb.cell (p := ⟨g7, 1, none⟩) hi7).trans c2
          replace c3 := (fb.cell (p := ⟨g7, 2, none⟩) hi7).trans c3
          replace c4 := (fb.cell (p := ⟨g7, 3, none⟩) hi7).trans c4
          have hszx : W.heap.size ≤ x.heap.size := fb.size
          clear fb hga qfa0 qfa1
          obtain ⟨t, ht⟩ : ∃ t, turn pa pb pc = t := ⟨_, rfl⟩
          obtain ⟨s, hs⟩ : ∃ s, dot pb pa pc = s := ⟨_, rfl⟩
          have HT := Lib.hid ht
          have HS := Lib.hid hs
          clear ht hs
          have hspk : spikeB l k = (t == 0 && decide (0 < s)) := by
            rw [HSP.out]; unfold backB; rw [turn_swap, HT.out, HS.out]
            congr 1; rw [Bool.eq_iff_iff]; simp
          have HSK := Lib.hid hspk
          clear hspk
          by_cases hsk : t = 0 ∧ 0 < s
          · obtain ⟨ht0, hs0⟩ := hsk
            subst ht0
            have d2 : decide (0 < s) = true := decide_eq_true hs0
            have hcb : crossBP l = true := by rw [HCB.out]; exact HCT.out (by rw [HSK.out, d2]; rfl)
            have HCBT := Lib.hid hcb
            clear hcb
            gi_wp2_with (first | (gi_at_call 66; (with_reducible refine Calls.useR ((turn_is _ HA HB HC HT.out).use ?_)); intro w1 hb1 hz1 hc1 hf1; have r0 := (hc1 g7 0 (by omega)).trans c1; have r1 := (hc1 g7 1 (by omega)).trans c2; have r2 := (hc1 g7 2 (by omega)).trans c3; have r3 := (hc1 g7 3 (by omega)).trans c4; have r4 := (hc1 ga 0 (by omega)).trans qa0; have r5 := (hc1 ga 1 (by omega)).trans qa1; have r6 := (hc1 (w.heap.size + 1) 0 (by omega)).trans f2; have rz := (hf1 (w.heap.size + 1) 0 (by omega)).trans z0; clear hc1 hf1) | (gi_at_call 67; (with_reducible refine Calls.useR ((ahead_is _ HB HA HC HS.out).use ?_)); intro w2 hb2 hz2 hc2 hf2; have v6 := (hc2 (w.heap.size + 1) 0 (by omega)).trans r6; have vz := (hf2 (w.heap.size + 1) 0 (by omega)).trans rz; clear hc2 hf2))
            exact ⟨by (repeat' (first | exact KeepsOthers.refl _ | assumption | refine KeepsOthers.trans ?_ (KeepsOthers.setCell _ _ _) | refine keeps_step (by assumption) ?_)), rfl, HCBT.out, by (repeat' (first | exact Below.refl _ _ | assumption | refine below_new ?_ _ | refine below_draw ?_ | refine below_tail (by assumption) ?_ | refine below_set ?_ (by first | omega | (simp <;> omega)) _)), World.cell?_setCell_same' _ _ _ (by rw [v6]; rfl)⟩
          · have hsf : spikeB l k = false := by
              rw [HSK.out]
              by_cases ht0 : t = 0
              · rw [decide_eq_false (fun h => hsk ⟨ht0, h⟩), Bool.and_false]
              · have : (t == 0) = false := by simpa using ht0
                rw [this]; rfl
            have HSF := Lib.hid hsf
            clear hsf
            have hcs : ((t == 0) = false) ∨ ((t == 0) = true ∧ decide (0 < s) = false) := by
              by_cases ht0 : t = 0
              · exact .inr ⟨by simpa using ht0, decide_eq_false (fun h => hsk ⟨ht0, h⟩)⟩
              · exact .inl (by simpa using ht0)
            clear hsk
            rcases hcs with ht0 | ⟨ht0, hs0⟩
            · skip
              gi_wp2_with (first | (gi_at_call 66; (with_reducible refine Calls.useR ((turn_is _ HA HB HC HT.out).use ?_)); intro w1 hb1 hz1 hc1 hf1; have c0_1 := (hc1 g6 0 (by omega)).trans c0; have c1_1 := (hc1 g7 0 (by omega)).trans c1; have c2_1 := (hc1 g7 1 (by omega)).trans c2; have c3_1 := (hc1 g7 2 (by omega)).trans c3; have c4_1 := (hc1 g7 3 (by omega)).trans c4; have f0_1 := (hc1 (M + 1) 0 (by omega)).trans f0; have f1_1 := (hc1 w.heap.size 0 (by omega)).trans f1; have f2_1 := (hc1 (w.heap.size + 1) 0 (by omega)).trans f2; have f3_1 := (hc1 M 0 (by omega)).trans f3; have z0_1 := (hf1 (w.heap.size + 1) 0 (by omega)).trans z0; have qa0_1 := (hc1 ga 0 (by omega)).trans qa0; have qa1_1 := (hc1 ga 1 (by omega)).trans qa1; clear hc1 hf1) | (gi_at_call 56; refine Calls.useR ((sides_calls _ _ _ _).mono ?_); rintro e w' ⟨rfl, rfl⟩))
              obtain ⟨S2, hS2⟩ : ∃ S2, w1.heap.size = S2 := ⟨_, rfl⟩
              obtain ⟨Wb, hWb⟩ : ∃ Wb, w1.alloc (.cells #[.slice (some ⟨b0, o0, none⟩) l.length cap] 22) = Wb := ⟨_, rfl⟩
              rw [hWb]
              have hbb : Below w1.heap.size w1 Wb := by rw [← hWb]; exact below_new (Below.refl _ _) _
              have hszb : Wb.heap.size = S2 + 1 := by rw [← hWb]; simp [hS2]
              have e6 : Wb.cell? ⟨S2, 0, none⟩ = some (.slice (some ⟨b0, o0, none⟩) l.length cap) := by rw [← hWb, ← hS2]; simp [go_sem]
              have hBb : Below w.heap.size w Wb := by (repeat' (first | exact Below.refl _ _ | assumption | refine below_new ?_ _ | refine below_draw ?_ | refine below_tail (by assumption) ?_ | refine below_set ?_ (by first | omega | (simp <;> omega)) _))
              have hkA : KeepsOthers W Wb := keeps_step hbb (keeps_step hb1 hkw)
              have hrb : ∃ r, Wb.heap[l']? = some (.loop r) := by obtain ⟨r, hr⟩ := hr; exact ⟨r, hkA.same _ _ hr rfl⟩
              have hS2x : x.heap.size ≤ S2 := by omega
              replace c0 := (hbb.cell (p := ⟨g6, 0, none⟩) (by dsimp only; omega)).trans c0_1
              replace c1 := (hbb.cell (p := ⟨g7, 0, none⟩) (by dsimp only; omega)).trans c1_1
              replace c2 := (hbb.cell (p := ⟨g7, 1, none⟩) (by dsimp only; omega)).trans c2_1
              replace c3 := (hbb.cell (p := ⟨g7, 2, none⟩) (by dsimp only; omega)).trans c3_1
              replace c4 := (hbb.cell (p := ⟨g7, 3, none⟩) (by dsimp only; omega)).trans c4_1
              replace f0 := (hbb.cell (p := ⟨(M + 1), 0, none⟩) (by dsimp only; omega)).trans f0_1
              replace f1 := (hbb.cell (p := ⟨w.heap.size, 0, none⟩) (by dsimp only; omega)).trans f1_1
              replace f2 := (hbb.cell (p := ⟨(w.heap.size + 1), 0, none⟩) (by dsimp only; omega)).trans f2_1
              replace f3 := (hbb.cell (p := ⟨M, 0, none⟩) (by dsimp only; omega)).trans f3_1
              replace z0 := (hbb.frozen (p := ⟨(w.heap.size + 1), 0, none⟩) (by dsimp only; omega)).trans z0_1
              clear hWb hbb c0_1 c1_1 c2_1 c3_1 c4_1 f0_1 f1_1 f2_1 f3_1 z0_1 qa0_1 qa1_1 qa0 qa1 hb1
              rw [hS2]
              clear hr
              refine wide_rangeBoxN (gf := 103) (lb := #[.pointer (some ⟨S2, 0, none⟩)]) hrb rfl (enters_of Try.func103 (by kernel_rfl) rfl) (sides_iter (S2) _ l (by omega) (by omega)) (fun _ => rfl)
                (fun j W => Below w.heap.size w W ∧ j ≤ l.length ∧ W.cell? ⟨S2, 0, none⟩ = some (.slice (some ⟨b0, o0, none⟩) l.length cap) ∧ W.cell? ⟨M + 1, 0, none⟩ = some (.slice (some ⟨b0, o0, none⟩) l.length cap) ∧ W.cell? ⟨w.heap.size, 0, none⟩ = some (.slice (some ⟨b0, o0, none⟩) l.length cap) ∧ W.cell? ⟨w.heap.size + 1, 0, none⟩ = some (.int .i64 0) ∧ W.cell? ⟨M, 0, none⟩ = some (.int .i64 l.length) ∧ W.cell? ⟨g6, 0, none⟩ = some (.int .i64 k) ∧ W.cell? ⟨g7, 0, none⟩ = some (.int .i64 pa.1) ∧ W.cell? ⟨g7, 1, none⟩ = some (.int .i64 pa.2) ∧ W.cell? ⟨g7, 2, none⟩ = some (.int .i64 pb.1) ∧ W.cell? ⟨g7, 3, none⟩ = some (.int .i64 pb.2) ∧ W.frozen? ⟨w.heap.size + 1, 0, none⟩ = false ∧ KeepsOthers Wb W ∧ Hid (∀ i, i < j → crossP l k i = false))
                (fun cd j W => cd = .ret ∧ crossBP l = true ∧ Below w.heap.size w W ∧ W.cell? ⟨w.heap.size + 1, 0, none⟩ = some (.int .i64 9) ∧ KeepsOthers Wb W)
                (fun k W ⟨hB, hk, f0, f1, f2, f3, f4, f5, f6, f7, f8, f9, z0, hkp, u0⟩ => ⟨f0, HP.out.below hB⟩)
                (fun k W W' ⟨hB, hk, f0, f1, f2, f3, f4, f5, f6, f7, f8, f9, z0, hkp, u0⟩ hb => ⟨hB.trans (hb.mono (by omega)), hk, (hb.cell (p := ⟨S2, 0, none⟩) (by dsimp only; omega)).trans f0, (hb.cell (p := ⟨M + 1, 0, none⟩) (by dsimp only; omega)).trans f1, (hb.cell (p := ⟨w.heap.size, 0, none⟩) (by dsimp only; omega)).trans f2, (hb.cell (p := ⟨w.heap.size + 1, 0, none⟩) (by dsimp only; omega)).trans f3, (hb.cell (p := ⟨M, 0, none⟩) (by dsimp only; omega)).trans f4, (hb.cell (p := ⟨g6, 0, none⟩) (by dsimp only; omega)).trans f5, (hb.cell (p := ⟨g7, 0, none⟩) (by dsimp only; omega)).trans f6, (hb.cell (p := ⟨g7, 1, none⟩) (by dsimp only; omega)).trans f7, (hb.cell (p := ⟨g7, 2, none⟩) (by dsimp only; omega)).trans f8, (hb.cell (p := ⟨g7, 3, none⟩) (by dsimp only; omega)).trans f9, (hb.frozen (p := ⟨w.heap.size + 1, 0, none⟩) (by dsimp only; omega)).trans z0, keeps_in hkp (hb.mono (by omega)), u0⟩)
                (fun cd k W W' ⟨e1, e2, hB, f2, hkp⟩ hb => ⟨e1, e2, hB.trans (hb.mono (by omega)), (hb.cell (p := ⟨w.heap.size + 1, 0, none⟩) (by dsimp only; omega)).trans f2, keeps_in hkp hb⟩)
                (fun e => by cases e)
                ?start2
                (fun j a' W => ∃ (y0 : Value) (y3 : Value) (y4 : Value) (y8 : Value) (y11 : Value) (y12 : Value) (y13 : Value) (y14 : Value) (y15 : Value) (y16 : Value) (y17 : Value) (y18 : Value) (y19 : Value) (y20 : Value) (y21 : Value) (y22 : Value) (y23 : Value) (y24 : Value) (y25 : Value) (y26 : Value) (y27 : Value) (y28 : Value) (y29 : Value) (y30 : Value) (y31 : Value) (y32 : Value) (y33 : Value) (y34 : Value) (y35 : Value) (y36 : Value) (y37 : Value) (y38 : Value) (y39 : Value) (y40 : Value) (y41 : Value) (y42 : Value) (y43 : Value) (y44 : Value) (y45 : Value) (y46 : Value) (y47 : Value) (y48 : Value) (y49 : Value) (y50 : Value) (y51 : Value) (y52 : Value) (y53 : Value) (y54 : Value) (y55 : Value) (y56 : Value) (y57 : Value) (y58 : Value) (y59 : Value) (y60 : Value) (y61 : Value) (y62 : Value) (y63 : Value) (y64 : Value) (g10 : Nat), a' = { tmps := #[y0, .pointer (some ⟨w.heap.size, 0, none⟩), .pointer (some ⟨w.heap.size + 1, 0, none⟩), y3, y4, .pointer (some ⟨M, 0, none⟩), .pointer (some ⟨g6, 0, none⟩), .pointer (some ⟨g7, 0, none⟩), y8, .int .i64 j, .pointer (some ⟨g10, 0, none⟩), y11, y12, y13, y14, y15, y16, y17, y18, y19, y20, y21, y22, y23, y24, y25, y26, y27, y28, y29, y30, y31, y32, y33, y34, y35, y36, y37, y38, y39, y40, y41, y42, y43, y44, y45, y46, y47, y48, y49, y50, y51, y52, y53, y54, y55, y56, y57, y58, y59, y60, y61, y62, y63, y64, .int .i64 j, .agg #[.int .i64 (cor l j).1, .int .i64 (cor l j).2, .int .i64 (cor l (j + 1)).1, .int .i64 (cor l (j + 1)).2], undef, undef, undef, undef, undef, undef, undef, undef, undef, undef, undef, undef, undef, undef, undef, undef, undef], defers := [] } ∧ W.cell? ⟨g10, 0, none⟩ = some (.int .i64 (cor l j).1) ∧ W.cell? ⟨g10, 1, none⟩ = some (.int .i64 (cor l j).2) ∧ W.cell? ⟨g10, 2, none⟩ = some (.int .i64 (cor l (j + 1)).1) ∧ W.cell? ⟨g10, 3, none⟩ = some (.int .i64 (cor l (j + 1)).2) ∧ Wb.heap.size ≤ g10 ∧ g10 < W.heap.size)
                (fun k a' W l o hl hr ⟨y0, y3, y4, y8, y11, y12, y13, y14, y15, y16, y17, y18, y19, y20, y21, y22, y23, y24, y25, y26, y27, y28, y29, y30, y31, y32, y33, y34, y35, y36, y37, y38, y39, y40, y41, y42, y43, y44, y45, y46, y47, y48, y49, y50, y51, y52, y53, y54, y55, y56, y57, y58, y59, y60, y61, y62, y63, y64, g10, ha, c0, c1, c2, c3, lo10, hi10⟩ => ⟨y0, y3, y4, y8, y11, y12, y13, y14, y15, y16, y17, y18, y19, y20, y21, y22, y23, y24, y25, y26, y27, y28, y29, y30, y31, y32, y33, y34, y35, y36, y37, y38, y39, y40, y41, y42, y43, y44, y45, y46, y47, y48, y49, y50, y51, y52, y53, y54, y55, y56, y57, y58, y59, y60, y61, y62, y63, y64, g10, ha, cell_putObj_loop hr c0, cell_putObj_loop hr c1, cell_putObj_loop hr c2, cell_putObj_loop hr c3, lo10, by simpa [World.putObj] using hi10⟩) ?assign2 ?body2 ?done2 ?stop2
              case assign2 =>
                rintro l' j W K hsW ⟨hB, hk, f0, f1, f2, f3, f4, f5, f6, f7, f8, f9, z0, hkp, u0⟩ hm hK
                have hkl := hm _ rfl
                gi_wp2
                have hb3 := below_new (Below.refl W.heap.size W) (.cells #[.int .i64 (cor l j).1, .int .i64 (cor l j).2, .int .i64 (cor l (j + 1)).1, .int .i64 (cor l (j + 1)).2] 56)
                exact hK _ _ (keeps_of_below hb3) ⟨hB.trans (hb3.mono (by omega)), hk, (hb3.cell (p := ⟨S2, 0, none⟩) (by dsimp only; omega)).trans f0, (hb3.cell (p := ⟨M + 1, 0, none⟩) (by dsimp only; omega)).trans f1, (hb3.cell (p := ⟨w.heap.size, 0, none⟩) (by dsimp only; omega)).trans f2, (hb3.cell (p := ⟨w.heap.size + 1, 0, none⟩) (by dsimp only; omega)).trans f3, (hb3.cell (p := ⟨M, 0, none⟩) (by dsimp only; omega)).trans f4, (hb3.cell (p := ⟨g6, 0, none⟩) (by dsimp only; omega)).trans f5, (hb3.cell (p := ⟨g7, 0, none⟩) (by dsimp only; omega)).trans f6, (hb3.cell (p := ⟨g7, 1, none⟩) (by dsimp only; omega)).trans f7, (hb3.cell (p := ⟨g7, 2, none⟩) (by dsimp only; omega)).trans f8, (hb3.cell (p := ⟨g7, 3, none⟩) (by dsimp only; omega)).trans f9, (hb3.frozen (p := ⟨w.heap.size + 1, 0, none⟩) (by dsimp only; omega)).trans z0, keeps_in hkp (hb3.mono (by omega)), u0⟩
                  ⟨_, _, _, _, _, _, _, _, _, _, _, _, _, _, _, _, _, _, _, _, _, _, _, _, _, _, _, _, _, _, _, _, _, _, _, _, _, _, _, _, _, _, _, _, _, _, _, _, _, _, _, _, _, _, _, _, _, _, _, rfl, by simp [go_sem], by simp [go_sem], by simp [go_sem], by simp [go_sem], by first | omega | (simp <;> omega), by first | omega | (simp <;> omega)⟩
              case body2 =>
                rintro l' j a' W hl hr hsW ⟨hB, hk, f0, f1, f2, f3, f4, f5, f6, f7, f8, f9, z0, hkp, u0⟩ ⟨y0, y3, y4, y8, y11, y12, y13, y14, y15, y16, y17, y18, y19, y20, y21, y22, y23, y24, y25, y26, y27, y28, y29, y30, y31, y32, y33, y34, y35, y36, y37, y38, y39, y40, y41, y42, y43, y44, y45, y46, y47, y48, y49, y50, y51, y52, y53, y54, y55, y56, y57, y58, y59, y60, y61, y62, y63, y64, g10, rfl, c0, c1, c2, c3, lo10, hi10⟩ hm
                have hkl := hm _ rfl
                clear hm
                have hj1 := HCR.out j
                obtain ⟨m2, hm3, hm4, -⟩ := cor_at (l := l) j 1 (by omega)
                have hm5 : (j + 1) % l.length = m2 := by have h : (((j + 1) % l.length : Nat) : Int) = (m2 : Int) := by rw [Int.natCast_emod]; exact hm3
                                                         exact_mod_cast h
                rw [hm5] at hj1
                have hm3 : ((j : Int) + 1) % (l.length : Int) = (m2 : Int) := hm3
                clear hm5
                obtain ⟨tb, htb⟩ : ∃ b, touchB pa pb (cor l j) (cor l (j + 1)) = b := ⟨_, rfl⟩
                rw [htb] at hj1
                have HTB := Lib.hid htb
                have HJ := Lib.hid hj1
                have HAN2 := Lib.hid (anyN_true (f := fun j => crossP l k j) hkl)
                clear htb hj1
                have HD := HBD.out j
                have HE := HBD.out (j + 1)
                have hr1 : ((j : Int) + 1).tmod (l.length : Int) = (m2 : Int) := by rw [Int.tmod_eq_emod_of_nonneg (by omega)]; exact hm3
                have hl00 : ¬ l = [] := fun e => by rw [e] at h1; simp at h1
                have u0_1 := u0
                by_cases hc1 : k + 1 < j
                · have x1 : decide ((k : Int) + 1 < (j : Int)) = true := decide_eq_true (by omega)
                  have y1 : decide (k + 1 < j) = true := decide_eq_true hc1
                  by_cases hc2 : m2 = k
                  · have x2 : ((m2 : Int) != (k : Int)) = false := by simp [hc2]
                    have x3 : ((m2 : Int) == (k : Int)) = true := by simp [hc2]
                    have y2 : decide (m2 ≠ k) = false := decide_eq_false (by simp [hc2])
                    have hcf : crossP l k j = false := by rw [HJ.out]; rw [y1, y2]; rfl
                    have HCF := Lib.hid hcf
                    clear hcf
                    have HE2 := Lib.hid hc2
                    clear hc2
                    have qf5 := fun dr os => cell_regrown f5 dr os
                    have qf4 := fun dr os => cell_regrown f4 dr os
                    have qf6 := fun dr os => cell_regrown f6 dr os
                    have qf7 := fun dr os => cell_regrown f7 dr os
                    have qf8 := fun dr os => cell_regrown f8 dr os
                    have qf9 := fun dr os => cell_regrown f9 dr os
                    have qc0 := fun dr os => cell_regrown c0 dr os
                    have qc1 := fun dr os => cell_regrown c1 dr os
                    have qc2 := fun dr os => cell_regrown c2 dr os
                    have qc3 := fun dr os => cell_regrown c3 dr os
                    have hw1 : IntKind.i64.wrap ((k : Int) + 1) = (k : Int) + 1 := IntWalk.i64_in _ (by omega)
                    have hw2 : IntKind.i64.wrap ((j : Int) + 1) = (j : Int) + 1 := IntWalk.i64_in _ (by omega)
                    gi_wp2
                    refine regionR_q mixed (by kernel_rfl) (by kernel_rfl) ?_
                    repeat (go_big_quiet_step (first | (go_at_call 68; exact Calls.regrown_of (touch_is _ HA HB HD HE HTB.out))))
                    refine wpQuiet_nil ?_
                    intro wq hbq
                    clear hw1 hw2 qf5 qf4 qf6 qf7 qf8 qf9 qc0 qc1 qc2 qc3
                    gi_wp2
                    exact ⟨keeps_of_below hbq, below_tail hbq hB, by omega, (hbq.cell (p := ⟨S2, 0, none⟩) (by dsimp only; omega)).trans f0, (hbq.cell (p := ⟨M + 1, 0, none⟩) (by dsimp only; omega)).trans f1, (hbq.cell (p := ⟨w.heap.size, 0, none⟩) (by dsimp only; omega)).trans f2, (hbq.cell (p := ⟨w.heap.size + 1, 0, none⟩) (by dsimp only; omega)).trans f3, (hbq.cell (p := ⟨M, 0, none⟩) (by dsimp only; omega)).trans f4, (hbq.cell (p := ⟨g6, 0, none⟩) (by dsimp only; omega)).trans f5, (hbq.cell (p := ⟨g7, 0, none⟩) (by dsimp only; omega)).trans f6, (hbq.cell (p := ⟨g7, 1, none⟩) (by dsimp only; omega)).trans f7, (hbq.cell (p := ⟨g7, 2, none⟩) (by dsimp only; omega)).trans f8, (hbq.cell (p := ⟨g7, 3, none⟩) (by dsimp only; omega)).trans f9, (hbq.frozen (p := ⟨w.heap.size + 1, 0, none⟩) (by dsimp only; omega)).trans z0, keeps_in hkp (hbq.mono (by omega)), fun i hi => (Nat.lt_succ_iff_lt_or_eq.1 hi).elim (u0_1.out i) (fun e => by subst e; exact HCF.out)⟩
                  · have x2 : ((m2 : Int) != (k : Int)) = true := by simp; omega
                    have x3 : ((m2 : Int) == (k : Int)) = false := by simp; omega
                    have y2 : decide (m2 ≠ k) = true := decide_eq_true hc2
                    cases tb
                    · skip
                      have hcf : crossP l k j = false := by rw [HJ.out]; rw [y1, y2]; rfl
                      have HCF := Lib.hid hcf
                      clear hcf
                      have qf5 := fun dr os => cell_regrown f5 dr os
                      have qf4 := fun dr os => cell_regrown f4 dr os
                      have qf6 := fun dr os => cell_regrown f6 dr os
                      have qf7 := fun dr os => cell_regrown f7 dr os
                      have qf8 := fun dr os => cell_regrown f8 dr os
                      have qf9 := fun dr os => cell_regrown f9 dr os
                      have qc0 := fun dr os => cell_regrown c0 dr os
                      have qc1 := fun dr os => cell_regrown c1 dr os
                      have qc2 := fun dr os => cell_regrown c2 dr os
                      have qc3 := fun dr os => cell_regrown c3 dr os
                      have hw1 : IntKind.i64.wrap ((k : Int) + 1) = (k : Int) + 1 := IntWalk.i64_in _ (by omega)
                      have hw2 : IntKind.i64.wrap ((j : Int) + 1) = (j : Int) + 1 := IntWalk.i64_in _ (by omega)
                      gi_wp2
                      refine regionR_q mixed (by kernel_rfl) (by kernel_rfl) ?_
                      repeat (go_big_quiet_step (first | (go_at_call 68; exact Calls.regrown_of (touch_is _ HA HB HD HE HTB.out))))
                      refine wpQuiet_nil ?_
                      intro wq hbq
                      clear hw1 hw2 qf5 qf4 qf6 qf7 qf8 qf9 qc0 qc1 qc2 qc3
                      gi_wp2
                      exact ⟨keeps_of_below hbq, below_tail hbq hB, by omega, (hbq.cell (p := ⟨S2, 0, none⟩) (by dsimp only; omega)).trans f0, (hbq.cell (p := ⟨M + 1, 0, none⟩) (by dsimp only; omega)).trans f1, (hbq.cell (p := ⟨w.heap.size, 0, none⟩) (by dsimp only; omega)).trans f2, (hbq.cell (p := ⟨w.heap.size + 1, 0, none⟩) (by dsimp only; omega)).trans f3, (hbq.cell (p := ⟨M, 0, none⟩) (by dsimp only; omega)).trans f4, (hbq.cell (p := ⟨g6, 0, none⟩) (by dsimp only; omega)).trans f5, (hbq.cell (p := ⟨g7, 0, none⟩) (by dsimp only; omega)).trans f6, (hbq.cell (p := ⟨g7, 1, none⟩) (by dsimp only; omega)).trans f7, (hbq.cell (p := ⟨g7, 2, none⟩) (by dsimp only; omega)).trans f8, (hbq.cell (p := ⟨g7, 3, none⟩) (by dsimp only; omega)).trans f9, (hbq.frozen (p := ⟨w.heap.size + 1, 0, none⟩) (by dsimp only; omega)).trans z0, keeps_in hkp (hbq.mono (by omega)), fun i hi => (Nat.lt_succ_iff_lt_or_eq.1 hi).elim (u0_1.out i) (fun e => by subst e; exact HCF.out)⟩
                    · skip
                      have hcb : crossBP l = true := by
                        rw [HCB.out]; refine HCT.out (or_r (HAN2.out ?_)); show crossP l k j = true; rw [HJ.out, y1, y2]; rfl
                      have HCBT := Lib.hid hcb
                      clear hcb
                      have qf5 := fun dr os => cell_regrown f5 dr os
                      have qf4 := fun dr os => cell_regrown f4 dr os
                      have qf6 := fun dr os => cell_regrown f6 dr os
                      have qf7 := fun dr os => cell_regrown f7 dr os
                      have qf8 := fun dr os => cell_regrown f8 dr os
                      have qf9 := fun dr os => cell_regrown f9 dr os
                      have qc0 := fun dr os => cell_regrown c0 dr os
                      have qc1 := fun dr os => cell_regrown c1 dr os
                      have qc2 := fun dr os => cell_regrown c2 dr os
                      have qc3 := fun dr os => cell_regrown c3 dr os
                      have hw1 : IntKind.i64.wrap ((k : Int) + 1) = (k : Int) + 1 := IntWalk.i64_in _ (by omega)
                      have hw2 : IntKind.i64.wrap ((j : Int) + 1) = (j : Int) + 1 := IntWalk.i64_in _ (by omega)
                      gi_wp2
                      refine regionR_q mixed (by kernel_rfl) (by kernel_rfl) ?_
                      repeat (go_big_quiet_step (first | (go_at_call 68; exact Calls.regrown_of (touch_is _ HA HB HD HE HTB.out))))
                      refine wpQuiet_nil ?_
                      intro wq hbq
                      clear hw1 hw2 qf5 qf4 qf6 qf7 qf8 qf9 qc0 qc1 qc2 qc3
                      have v3 := (hbq.cell (p := ⟨w.heap.size + 1, 0, none⟩) (by dsimp only; omega)).trans f3
                      have vz := (hbq.frozen (p := ⟨w.heap.size + 1, 0, none⟩) (by dsimp only; omega)).trans z0
                      gi_wp2
                      exact ⟨(keeps_of_below hbq).trans (KeepsOthers.setCell _ _ _), rfl, HCBT.out, below_set (below_tail hbq hB) (by dsimp only; omega) _, World.cell?_setCell_same' _ _ _ (by rw [v3]; rfl), (keeps_in hkp (hbq.mono (by omega))).trans (KeepsOthers.setCell _ _ _)⟩
                · have x1 : decide ((k : Int) + 1 < (j : Int)) = false := decide_eq_false (by omega)
                  have y1 : decide (k + 1 < j) = false := decide_eq_false hc1
                  have hcf : crossP l k j = false := by rw [HJ.out]; rw [y1]; rfl
                  have HCF := Lib.hid hcf
                  clear hcf
                  have qf5 := fun dr os => cell_regrown f5 dr os
                  have qf4 := fun dr os => cell_regrown f4 dr os
                  have qf6 := fun dr os => cell_regrown f6 dr os
                  have qf7 := fun dr os => cell_regrown f7 dr os
                  have qf8 := fun dr os => cell_regrown f8 dr os
                  have qf9 := fun dr os => cell_regrown f9 dr os
                  have qc0 := fun dr os => cell_regrown c0 dr os
                  have qc1 := fun dr os => cell_regrown c1 dr os
                  have qc2 := fun dr os => cell_regrown c2 dr os
                  have qc3 := fun dr os => cell_regrown c3 dr os
                  have hw1 : IntKind.i64.wrap ((k : Int) + 1) = (k : Int) + 1 := IntWalk.i64_in _ (by omega)
                  have hw2 : IntKind.i64.wrap ((j : Int) + 1) = (j : Int) + 1 := IntWalk.i64_in _ (by omega)
                  gi_wp2
                  refine regionR_q mixed (by kernel_rfl) (by kernel_rfl) ?_
                  repeat (go_big_quiet_step (first | (go_at_call 68; exact Calls.regrown_of (touch_is _ HA HB HD HE HTB.out))))
                  refine wpQuiet_nil ?_
                  intro wq hbq
                  clear hw1 hw2 qf5 qf4 qf6 qf7 qf8 qf9 qc0 qc1 qc2 qc3
                  gi_wp2
                  exact ⟨keeps_of_below hbq, below_tail hbq hB, by omega, (hbq.cell (p := ⟨S2, 0, none⟩) (by dsimp only; omega)).trans f0, (hbq.cell (p := ⟨M + 1, 0, none⟩) (by dsimp only; omega)).trans f1, (hbq.cell (p := ⟨w.heap.size, 0, none⟩) (by dsimp only; omega)).trans f2, (hbq.cell (p := ⟨w.heap.size + 1, 0, none⟩) (by dsimp only; omega)).trans f3, (hbq.cell (p := ⟨M, 0, none⟩) (by dsimp only; omega)).trans f4, (hbq.cell (p := ⟨g6, 0, none⟩) (by dsimp only; omega)).trans f5, (hbq.cell (p := ⟨g7, 0, none⟩) (by dsimp only; omega)).trans f6, (hbq.cell (p := ⟨g7, 1, none⟩) (by dsimp only; omega)).trans f7, (hbq.cell (p := ⟨g7, 2, none⟩) (by dsimp only; omega)).trans f8, (hbq.cell (p := ⟨g7, 3, none⟩) (by dsimp only; omega)).trans f9, (hbq.frozen (p := ⟨w.heap.size + 1, 0, none⟩) (by dsimp only; omega)).trans z0, keeps_in hkp (hbq.mono (by omega)), fun i hi => (Nat.lt_succ_iff_lt_or_eq.1 hi).elim (u0_1.out i) (fun e => by subst e; exact HCF.out)⟩
              case done2 =>
                rintro m W2 hm ⟨hB, hk, f0, f1, f2, f3, f4, f5, f6, f7, f8, f9, z0, hkp, u1⟩
                cases hm
                gi_wp2
                exact ⟨hkA.trans hkp, hB, by omega, f1, f2, f3, f4, z0, fun i hi => (Nat.lt_succ_iff_lt_or_eq.1 hi).elim (u0.out i) (fun e => by subst e; rw [HSF.out, anyN_false u1.out]; rfl)⟩
              case stop2 =>
                rintro cd j W2 ⟨rfl, e2, hB, f2, hkp⟩
                gi_wp2
                exact ⟨hkA.trans hkp, rfl, e2, hB, f2⟩
              case start2 => exact ⟨hBb, Nat.zero_le _, e6, f0, f1, f2, f3, c0, c1, c2, c3, c4, z0, KeepsOthers.refl _, fun i hi => absurd hi (by omega)⟩
            · skip
              gi_wp2_with (first | (gi_at_call 66; (with_reducible refine Calls.useR ((turn_is _ HA HB HC HT.out).use ?_)); intro w1 hb1 hz1 hc1 hf1; have c0_1 := (hc1 g6 0 (by omega)).trans c0; have c1_1 := (hc1 g7 0 (by omega)).trans c1; have c2_1 := (hc1 g7 1 (by omega)).trans c2; have c3_1 := (hc1 g7 2 (by omega)).trans c3; have c4_1 := (hc1 g7 3 (by omega)).trans c4; have f0_1 := (hc1 (M + 1) 0 (by omega)).trans f0; have f1_1 := (hc1 w.heap.size 0 (by omega)).trans f1; have f2_1 := (hc1 (w.heap.size + 1) 0 (by omega)).trans f2; have f3_1 := (hc1 M 0 (by omega)).trans f3; have z0_1 := (hf1 (w.heap.size + 1) 0 (by omega)).trans z0; have qa0_1 := (hc1 ga 0 (by omega)).trans qa0; have qa1_1 := (hc1 ga 1 (by omega)).trans qa1; clear hc1 hf1) | (gi_at_call 67; (with_reducible refine Calls.useR ((ahead_is _ HB HA HC HS.out).use ?_)); intro w2 hb2 hz2 hc2 hf2; have c0_2 := (hc2 g6 0 (by omega)).trans c0_1; have c1_2 := (hc2 g7 0 (by omega)).trans c1_1; have c2_2 := (hc2 g7 1 (by omega)).trans c2_1; have c3_2 := (hc2 g7 2 (by omega)).trans c3_1; have c4_2 := (hc2 g7 3 (by omega)).trans c4_1; have f0_2 := (hc2 (M + 1) 0 (by omega)).trans f0_1; have f1_2 := (hc2 w.heap.size 0 (by omega)).trans f1_1; have f2_2 := (hc2 (w.heap.size + 1) 0 (by omega)).trans f2_1; have f3_2 := (hc2 M 0 (by omega)).trans f3_1; have z0_2 := (hf2 (w.heap.size + 1) 0 (by omega)).trans z0_1; have qa0_2 := (hc2 ga 0 (by omega)).trans qa0_1; have qa1_2 := (hc2 ga 1 (by omega)).trans qa1_1; clear hc2 hf2) | (gi_at_call 56; refine Calls.useR ((sides_calls _ _ _ _).mono ?_); rintro e w' ⟨rfl, rfl⟩))
              obtain ⟨S2, hS2⟩ : ∃ S2, w2.heap.size = S2 := ⟨_, rfl⟩
              obtain ⟨Wb, hWb⟩ : ∃ Wb, w2.alloc (.cells #[.slice (some ⟨b0, o0, none⟩) l.length cap] 22) = Wb := ⟨_, rfl⟩
              rw [hWb]
              have hbb : Below w2.heap.size w2 Wb := by rw [← hWb]; exact below_new (Below.refl _ _) _
              have hszb : Wb.heap.size = S2 + 1 := by rw [← hWb]; simp [hS2]
              have e6 : Wb.cell? ⟨S2, 0, none⟩ = some (.slice (some ⟨b0, o0, none⟩) l.length cap) := by rw [← hWb, ← hS2]; simp [go_sem]
              have hBb : Below w.heap.size w Wb := by (repeat' (first | exact Below.refl _ _ | assumption | refine below_new ?_ _ | refine below_draw ?_ | refine below_tail (by assumption) ?_ | refine below_set ?_ (by first | omega | (simp <;> omega)) _))
              have hkA : KeepsOthers W Wb := keeps_step hbb (keeps_step hb2 (keeps_step hb1 hkw))
              have hrb : ∃ r, Wb.heap[l']? = some (.loop r) := by obtain ⟨r, hr⟩ := hr; exact ⟨r, hkA.same _ _ hr rfl⟩
              have hS2x : x.heap.size ≤ S2 := by omega
              replace c0 := (hbb.cell (p := ⟨g6, 0, none⟩) (by dsimp only; omega)).trans c0_2
              replace c1 := (hbb.cell (p := ⟨g7, 0, none⟩) (by dsimp only; omega)).trans c1_2
              replace c2 := (hbb.cell (p := ⟨g7, 1, none⟩) (by dsimp only; omega)).trans c2_2
              replace c3 := (hbb.cell (p := ⟨g7, 2, none⟩) (by dsimp only; omega)).trans c3_2
              replace c4 := (hbb.cell (p := ⟨g7, 3, none⟩) (by dsimp only; omega)).trans c4_2
              replace f0 := (hbb.cell (p := ⟨(M + 1), 0, none⟩) (by dsimp only; omega)).trans f0_2
              replace f1 := (hbb.cell (p := ⟨w.heap.size, 0, none⟩) (by dsimp only; omega)).trans f1_2
              replace f2 := (hbb.cell (p := ⟨(w.heap.size + 1), 0, none⟩) (by dsimp only; omega)).trans f2_2
              replace f3 := (hbb.cell (p := ⟨M, 0, none⟩) (by dsimp only; omega)).trans f3_2
              replace z0 := (hbb.frozen (p := ⟨(w.heap.size + 1), 0, none⟩) (by dsimp only; omega)).trans z0_2
              clear hWb hbb c0_1 c1_1 c2_1 c3_1 c4_1 f0_1 f1_1 f2_1 f3_1 z0_1 qa0_1 qa1_1 c0_2 c1_2 c2_2 c3_2 c4_2 f0_2 f1_2 f2_2 f3_2 z0_2 qa0_2 qa1_2 qa0 qa1 hb1 hb2
              rw [hS2]
              clear hr
              refine wide_rangeBoxN (gf := 103) (lb := #[.pointer (some ⟨S2, 0, none⟩)]) hrb rfl (enters_of Try.func103 (by kernel_rfl) rfl) (sides_iter (S2) _ l (by omega) (by omega)) (fun _ => rfl)
                (fun j W => Below w.heap.size w W ∧ j ≤ l.length ∧ W.cell? ⟨S2, 0, none⟩ = some (.slice (some ⟨b0, o0, none⟩) l.length cap) ∧ W.cell? ⟨M + 1, 0, none⟩ = some (.slice (some ⟨b0, o0, none⟩) l.length cap) ∧ W.cell? ⟨w.heap.size, 0, none⟩ = some (.slice (some ⟨b0, o0, none⟩) l.length cap) ∧ W.cell? ⟨w.heap.size + 1, 0, none⟩ = some (.int .i64 0) ∧ W.cell? ⟨M, 0, none⟩ = some (.int .i64 l.length) ∧ W.cell? ⟨g6, 0, none⟩ = some (.int .i64 k) ∧ W.cell? ⟨g7, 0, none⟩ = some (.int .i64 pa.1) ∧ W.cell? ⟨g7, 1, none⟩ = some (.int .i64 pa.2) ∧ W.cell? ⟨g7, 2, none⟩ = some (.int .i64 pb.1) ∧ W.cell? ⟨g7, 3, none⟩ = some (.int .i64 pb.2) ∧ W.frozen? ⟨w.heap.size + 1, 0, none⟩ = false ∧ KeepsOthers Wb W ∧ Hid (∀ i, i < j → crossP l k i = false))
                (fun cd j W => cd = .ret ∧ crossBP l = true ∧ Below w.heap.size w W ∧ W.cell? ⟨w.heap.size + 1, 0, none⟩ = some (.int .i64 9) ∧ KeepsOthers Wb W)
                (fun k W ⟨hB, hk, f0, f1, f2, f3, f4, f5, f6, f7, f8, f9, z0, hkp, u0⟩ => ⟨f0, HP.out.below hB⟩)
                (fun k W W' ⟨hB, hk, f0, f1, f2, f3, f4, f5, f6, f7, f8, f9, z0, hkp, u0⟩ hb => ⟨hB.trans (hb.mono (by omega)), hk, (hb.cell (p := ⟨S2, 0, none⟩) (by dsimp only; omega)).trans f0, (hb.cell (p := ⟨M + 1, 0, none⟩) (by dsimp only; omega)).trans f1, (hb.cell (p := ⟨w.heap.size, 0, none⟩) (by dsimp only; omega)).trans f2, (hb.cell (p := ⟨w.heap.size + 1, 0, none⟩) (by dsimp only; omega)).trans f3, (hb.cell (p := ⟨M, 0, none⟩) (by dsimp only; omega)).trans f4, (hb.cell (p := ⟨g6, 0, none⟩) (by dsimp only; omega)).trans f5, (hb.cell (p := ⟨g7, 0, none⟩) (by dsimp only; omega)).trans f6, (hb.cell (p := ⟨g7, 1, none⟩) (by dsimp only; omega)).trans f7, (hb.cell (p := ⟨g7, 2, none⟩) (by dsimp only; omega)).trans f8, (hb.cell (p := ⟨g7, 3, none⟩) (by dsimp only; omega)).trans f9, (hb.frozen (p := ⟨w.heap.size + 1, 0, none⟩) (by dsimp only; omega)).trans z0, keeps_in hkp (hb.mono (by omega)), u0⟩)
                (fun cd k W W' ⟨e1, e2, hB, f2, hkp⟩ hb => ⟨e1, e2, hB.trans (hb.mono (by omega)), (hb.cell (p := ⟨w.heap.size + 1, 0, none⟩) (by dsimp only; omega)).trans f2, keeps_in hkp hb⟩)
                (fun e => by cases e)
                ?start2
                (fun j a' W => ∃ (y0 : Value) (y3 : Value) (y4 : Value) (y8 : Value) (y11 : Value) (y12 : Value) (y13 : Value) (y14 : Value) (y15 : Value) (y16 : Value) (y17 : Value) (y18 : Value) (y19 : Value) (y20 : Value) (y21 : Value) (y22 : Value) (y23 : Value) (y24 : Value) (y25 : Value) (y26 : Value) (y27 : Value) (y28 : Value) (y29 : Value) (y30 : Value) (y31 : Value) (y32 : Value) (y33 : Value) (y34 : Value) (y35 : Value) (y36 : Value) (y37 : Value) (y38 : Value) (y39 : Value) (y40 : Value) (y41 : Value) (y42 : Value) (y43 : Value) (y44 : Value) (y45 : Value) (y46 : Value) (y47 : Value) (y48 : Value) (y49 : Value) (y50 : Value) (y51 : Value) (y52 : Value) (y53 : Value) (y54 : Value) (y55 : Value) (y56 : Value) (y57 : Value) (y58 : Value) (y59 : Value) (y60 : Value) (y61 : Value) (y62 : Value) (y63 : Value) (y64 : Value) (g10 : Nat), a' = { tmps := #[y0, .pointer (some ⟨w.heap.size, 0, none⟩), .pointer (some ⟨w.heap.size + 1, 0, none⟩), y3, y4, .pointer (some ⟨M, 0, none⟩), .pointer (some ⟨g6, 0, none⟩), .pointer (some ⟨g7, 0, none⟩), y8, .int .i64 j, .pointer (some ⟨g10, 0, none⟩), y11, y12, y13, y14, y15, y16, y17, y18, y19, y20, y21, y22, y23, y24, y25, y26, y27, y28, y29, y30, y31, y32, y33, y34, y35, y36, y37, y38, y39, y40, y41, y42, y43, y44, y45, y46, y47, y48, y49, y50, y51, y52, y53, y54, y55, y56, y57, y58, y59, y60, y61, y62, y63, y64, .int .i64 j, .agg #[.int .i64 (cor l j).1, .int .i64 (cor l j).2, .int .i64 (cor l (j + 1)).1, .int .i64 (cor l (j + 1)).2], undef, undef, undef, undef, undef, undef, undef, undef, undef, undef, undef, undef, undef, undef, undef, undef, undef], defers := [] } ∧ W.cell? ⟨g10, 0, none⟩ = some (.int .i64 (cor l j).1) ∧ W.cell? ⟨g10, 1, none⟩ = some (.int .i64 (cor l j).2) ∧ W.cell? ⟨g10, 2, none⟩ = some (.int .i64 (cor l (j + 1)).1) ∧ W.cell? ⟨g10, 3, none⟩ = some (.int .i64 (cor l (j + 1)).2) ∧ Wb.heap.size ≤ g10 ∧ g10 < W.heap.size)
                (fun k a' W l o hl hr ⟨y0, y3, y4, y8, y11, y12, y13, y14, y15, y16, y17, y18, y19, y20, y21, y22, y23, y24, y25, y26, y27, y28, y29, y30, y31, y32, y33, y34, y35, y36, y37, y38, y39, y40, y41, y42, y43, y44, y45, y46, y47, y48, y49, y50, y51, y52, y53, y54, y55, y56, y57, y58, y59, y60, y61, y62, y63, y64, g10, ha, c0, c1, c2, c3, lo10, hi10⟩ => ⟨y0, y3, y4, y8, y11, y12, y13, y14, y15, y16, y17, y18, y19, y20, y21, y22, y23, y24, y25, y26, y27, y28, y29, y30, y31, y32, y33, y34, y35, y36, y37, y38, y39, y40, y41, y42, y43, y44, y45, y46, y47, y48, y49, y50, y51, y52, y53, y54, y55, y56, y57, y58, y59, y60, y61, y62, y63, y64, g10, ha, cell_putObj_loop hr c0, cell_putObj_loop hr c1, cell_putObj_loop hr c2, cell_putObj_loop hr c3, lo10, by simpa [World.putObj] using hi10⟩) ?assign2 ?body2 ?done2 ?stop2
              case assign2 =>
                rintro l' j W K hsW ⟨hB, hk, f0, f1, f2, f3, f4, f5, f6, f7, f8, f9, z0, hkp, u0⟩ hm hK
                have hkl := hm _ rfl
                gi_wp2
                have hb3 := below_new (Below.refl W.heap.size W) (.cells #[.int .i64 (cor l j).1, .int .i64 (cor l j).2, .int .i64 (cor l (j + 1)).1, .int .i64 (cor l (j + 1)).2] 56)
                exact hK _ _ (keeps_of_below hb3) ⟨hB.trans (hb3.mono (by omega)), hk, (hb3.cell (p := ⟨S2, 0, none⟩) (by dsimp only; omega)).trans f0, (hb3.cell (p := ⟨M + 1, 0, none⟩) (by dsimp only; omega)).trans f1, (hb3.cell (p := ⟨w.heap.size, 0, none⟩) (by dsimp only; omega)).trans f2, (hb3.cell (p := ⟨w.heap.size + 1, 0, none⟩) (by dsimp only; omega)).trans f3, (hb3.cell (p := ⟨M, 0, none⟩) (by dsimp only; omega)).trans f4, (hb3.cell (p := ⟨g6, 0, none⟩) (by dsimp only; omega)).trans f5, (hb3.cell (p := ⟨g7, 0, none⟩) (by dsimp only; omega)).trans f6, (hb3.cell (p := ⟨g7, 1, none⟩) (by dsimp only; omega)).trans f7, (hb3.cell (p := ⟨g7, 2, none⟩) (by dsimp only; omega)).trans f8, (hb3.cell (p := ⟨g7, 3, none⟩) (by dsimp only; omega)).trans f9, (hb3.frozen (p := ⟨w.heap.size + 1, 0, none⟩) (by dsimp only; omega)).trans z0, keeps_in hkp (hb3.mono (by omega)), u0⟩
                  ⟨_, _, _, _, _, _, _, _, _, _, _, _, _, _, _, _, _, _, _, _, _, _, _, _, _, _, _, _, _, _, _, _, _, _, _, _, _, _, _, _, _, _, _, _, _, _, _, _, _, _, _, _, _, _, _, _, _, _, _, rfl, by simp [go_sem], by simp [go_sem], by simp [go_sem], by simp [go_sem], by first | omega | (simp <;> omega), by first | omega | (simp <;> omega)⟩
              case body2 =>
                rintro l' j a' W hl hr hsW ⟨hB, hk, f0, f1, f2, f3, f4, f5, f6, f7, f8, f9, z0, hkp, u0⟩ ⟨y0, y3, y4, y8, y11, y12, y13, y14, y15, y16, y17, y18, y19, y20, y21, y22, y23, y24, y25, y26, y27, y28, y29, y30, y31, y32, y33, y34, y35, y36, y37, y38, y39, y40, y41, y42, y43, y44, y45, y46, y47, y48, y49, y50, y51, y52, y53, y54, y55, y56, y57, y58, y59, y60, y61, y62, y63, y64, g10, rfl, c0, c1, c2, c3, lo10, hi10⟩ hm
                have hkl := hm _ rfl
                clear hm
                have hj1 := HCR.out j
                obtain ⟨m2, hm3, hm4, -⟩ := cor_at (l := l) j 1 (by omega)
                have hm5 : (j + 1) % l.length = m2 := by have h : (((j + 1) % l.length : Nat) : Int) = (m2 : Int) := by rw [Int.natCast_emod]; exact hm3
                                                         exact_mod_cast h
                rw [hm5] at hj1
                have hm3 : ((j : Int) + 1) % (l.length : Int) = (m2 : Int) := hm3
                clear hm5
                obtain ⟨tb, htb⟩ : ∃ b, touchB pa pb (cor l j) (cor l (j + 1)) = b := ⟨_, rfl⟩
                rw [htb] at hj1
                have HTB := Lib.hid htb
                have HJ := Lib.hid hj1
                have HAN2 := Lib.hid (anyN_true (f := fun j => crossP l k j) hkl)
                clear htb hj1
                have HD := HBD.out j
                have HE := HBD.out (j + 1)
                have hr1 : ((j : Int) + 1).tmod (l.length : Int) = (m2 : Int) := by rw [Int.tmod_eq_emod_of_nonneg (by omega)]; exact hm3
                have hl00 : ¬ l = [] := fun e => by rw [e] at h1; simp at h1
                have u0_1 := u0
                by_cases hc1 : k + 1 < j
                · have x1 : decide ((k : Int) + 1 < (j : Int)) = true := decide_eq_true (by omega)
                  have y1 : decide (k + 1 < j) = true := decide_eq_true hc1
                  by_cases hc2 : m2 = k
                  · have x2 : ((m2 : Int) != (k : Int)) = false := by simp [hc2]
                    have x3 : ((m2 : Int) == (k : Int)) = true := by simp [hc2]
                    have y2 : decide (m2 ≠ k) = false := decide_eq_false (by simp [hc2])
                    have hcf : crossP l k j = false := by rw [HJ.out]; rw [y1, y2]; rfl
                    have HCF := Lib.hid hcf
                    clear hcf
                    have HE2 := Lib.hid hc2
                    clear hc2
                    have qf5 := fun dr os => cell_regrown f5 dr os
                    have qf4 := fun dr os => cell_regrown f4 dr os
                    have qf6 := fun dr os => cell_regrown f6 dr os
                    have qf7 := fun dr os => cell_regrown f7 dr os
                    have qf8 := fun dr os => cell_regrown f8 dr os
                    have qf9 := fun dr os => cell_regrown f9 dr os
                    have qc0 := fun dr os => cell_regrown c0 dr os
                    have qc1 := fun dr os => cell_regrown c1 dr os
                    have qc2 := fun dr os => cell_regrown c2 dr os
                    have qc3 := fun dr os => cell_regrown c3 dr os
                    have hw1 : IntKind.i64.wrap ((k : Int) + 1) = (k : Int) + 1 := IntWalk.i64_in _ (by omega)
                    have hw2 : IntKind.i64.wrap ((j : Int) + 1) = (j : Int) + 1 := IntWalk.i64_in _ (by omega)
                    gi_wp2
                    refine regionR_q mixed (by kernel_rfl) (by kernel_rfl) ?_
                    repeat (go_big_quiet_step (first | (go_at_call 68; exact Calls.regrown_of (touch_is _ HA HB HD HE HTB.out))))
                    refine wpQuiet_nil ?_
                    intro wq hbq
                    clear hw1 hw2 qf5 qf4 qf6 qf7 qf8 qf9 qc0 qc1 qc2 qc3
                    gi_wp2
                    exact ⟨keeps_of_below hbq, below_tail hbq hB, by omega, (hbq.cell (p := ⟨S2, 0, none⟩) (by dsimp only; omega)).trans f0, (hbq.cell (p := ⟨M + 1, 0, none⟩) (by dsimp only; omega)).trans f1, (hbq.cell (p := ⟨w.heap.size, 0, none⟩) (by dsimp only; omega)).trans f2, (hbq.cell (p := ⟨w.heap.size + 1, 0, none⟩) (by dsimp only; omega)).trans f3, (hbq.cell (p := ⟨M, 0, none⟩) (by dsimp only; omega)).trans f4, (hbq.cell (p := ⟨g6, 0, none⟩) (by dsimp only; omega)).trans f5, (hbq.cell (p := ⟨g7, 0, none⟩) (by dsimp only; omega)).trans f6, (hbq.cell (p := ⟨g7, 1, none⟩) (by dsimp only; omega)).trans f7, (hbq.cell (p := ⟨g7, 2, none⟩) (by dsimp only; omega)).trans f8, (hbq.cell (p := ⟨g7, 3, none⟩) (by dsimp only; omega)).trans f9, (hbq.frozen (p := ⟨w.heap.size + 1, 0, none⟩) (by dsimp only; omega)).trans z0, keeps_in hkp (hbq.mono (by omega)), fun i hi => (Nat.lt_succ_iff_lt_or_eq.1 hi).elim (u0_1.out i) (fun e => by subst e; exact HCF.out)⟩
                  · have x2 : ((m2 : Int) != (k : Int)) = true := by simp; omega
                    have x3 : ((m2 : Int) == (k : Int)) = false := by simp; omega
                    have y2 : decide (m2 ≠ k) = true := decide_eq_true hc2
                    cases tb
                    · skip
                      have hcf : crossP l k j = false := by rw [HJ.out]; rw [y1, y2]; rfl
                      have HCF := Lib.hid hcf
                      clear hcf
                      have qf5 := fun dr os => cell_regrown f5 dr os
                      have qf4 := fun dr os => cell_regrown f4 dr os
                      have qf6 := fun dr os => cell_regrown f6 dr os
                      have qf7 := fun dr os => cell_regrown f7 dr os
                      have qf8 := fun dr os => cell_regrown f8 dr os
                      have qf9 := fun dr os => cell_regrown f9 dr os
                      have qc0 := fun dr os => cell_regrown c0 dr os
                      have qc1 := fun dr os => cell_regrown c1 dr os
                      have qc2 := fun dr os => cell_regrown c2 dr os
                      have qc3 := fun dr os => cell_regrown c3 dr os
                      have hw1 : IntKind.i64.wrap ((k : Int) + 1) = (k : Int) + 1 := IntWalk.i64_in _ (by omega)
                      have hw2 : IntKind.i64.wrap ((j : Int) + 1) = (j : Int) + 1 := IntWalk.i64_in _ (by omega)
                      gi_wp2
                      refine regionR_q mixed (by kernel_rfl) (by kernel_rfl) ?_
                      repeat (go_big_quiet_step (first | (go_at_call 68; exact Calls.regrown_of (touch_is _ HA HB HD HE HTB.out))))
                      refine wpQuiet_nil ?_
                      intro wq hbq
                      clear hw1 hw2 qf5 qf4 qf6 qf7 qf8 qf9 qc0 qc1 qc2 qc3
                      gi_wp2
                      exact ⟨keeps_of_below hbq, below_tail hbq hB, by omega, (hbq.cell (p := ⟨S2, 0, none⟩) (by dsimp only; omega)).trans f0, (hbq.cell (p := ⟨M + 1, 0, none⟩) (by dsimp only; omega)).trans f1, (hbq.cell (p := ⟨w.heap.size, 0, none⟩) (by dsimp only; omega)).trans f2, (hbq.cell (p := ⟨w.heap.size + 1, 0, none⟩) (by dsimp only; omega)).trans f3, (hbq.cell (p := ⟨M, 0, none⟩) (by dsimp only; omega)).trans f4, (hbq.cell (p := ⟨g6, 0, none⟩) (by dsimp only; omega)).trans f5, (hbq.cell (p := ⟨g7, 0, none⟩) (by dsimp only; omega)).trans f6, (hbq.cell (p := ⟨g7, 1, none⟩) (by dsimp only; omega)).trans f7, (hbq.cell (p := ⟨g7, 2, none⟩) (by dsimp only; omega)).trans f8, (hbq.cell (p := ⟨g7, 3, none⟩) (by dsimp only; omega)).trans f9, (hbq.frozen (p := ⟨w.heap.size + 1, 0, none⟩) (by dsimp only; omega)).trans z0, keeps_in hkp (hbq.mono (by omega)), fun i hi => (Nat.lt_succ_iff_lt_or_eq.1 hi).elim (u0_1.out i) (fun e => by subst e; exact HCF.out)⟩
                    · skip
                      have hcb : crossBP l = true := by
                        rw [HCB.out]; refine HCT.out (or_r (HAN2.out ?_)); show crossP l k j = true; rw [HJ.out, y1, y2]; rfl
                      have HCBT := Lib.hid hcb
                      clear hcb
                      have qf5 := fun dr os => cell_regrown f5 dr os
                      have qf4 := fun dr os => cell_regrown f4 dr os
                      have qf6 := fun dr os => cell_regrown f6 dr os
                      have qf7 := fun dr os => cell_regrown f7 dr os
                      have qf8 := fun dr os => cell_regrown f8 dr os
                      have qf9 := fun dr os => cell_regrown f9 dr os
                      have qc0 := fun dr os => cell_regrown c0 dr os
                      have qc1 := fun dr os => cell_regrown c1 dr os
                      have qc2 := fun dr os => cell_regrown c2 dr os
                      have qc3 := fun dr os => cell_regrown c3 dr os
                      have hw1 : IntKind.i64.wrap ((k : Int) + 1) = (k : Int) + 1 := IntWalk.i64_in _ (by omega)
                      have hw2 : IntKind.i64.wrap ((j : Int) + 1) = (j : Int) + 1 := IntWalk.i64_in _ (by omega)
                      gi_wp2
                      refine regionR_q mixed (by kernel_rfl) (by kernel_rfl) ?_
                      repeat (go_big_quiet_step (first | (go_at_call 68; exact Calls.regrown_of (touch_is _ HA HB HD HE HTB.out))))
                      refine wpQuiet_nil ?_
                      intro wq hbq
                      clear hw1 hw2 qf5 qf4 qf6 qf7 qf8 qf9 qc0 qc1 qc2 qc3
                      have v3 := (hbq.cell (p := ⟨w.heap.size + 1, 0, none⟩) (by dsimp only; omega)).trans f3
                      have vz := (hbq.frozen (p := ⟨w.heap.size + 1, 0, none⟩) (by dsimp only; omega)).trans z0
                      gi_wp2
                      exact ⟨(keeps_of_below hbq).trans (KeepsOthers.setCell _ _ _), rfl, HCBT.out, below_set (below_tail hbq hB) (by dsimp only; omega) _, World.cell?_setCell_same' _ _ _ (by rw [v3]; rfl), (keeps_in hkp (hbq.mono (by omega))).trans (KeepsOthers.setCell _ _ _)⟩
                · have x1 : decide ((k : Int) + 1 < (j : Int)) = false := decide_eq_false (by omega)
                  have y1 : decide (k + 1 < j) = false := decide_eq_false hc1
                  have hcf : crossP l k j = false := by rw [HJ.out]; rw [y1]; rfl
                  have HCF := Lib.hid hcf
                  clear hcf
                  have qf5 := fun dr os => cell_regrown f5 dr os
                  have qf4 := fun dr os => cell_regrown f4 dr os
                  have qf6 := fun dr os => cell_regrown f6 dr os
                  have qf7 := fun dr os => cell_regrown f7 dr os
                  have qf8 := fun dr os => cell_regrown f8 dr os
                  have qf9 := fun dr os => cell_regrown f9 dr os
                  have qc0 := fun dr os => cell_regrown c0 dr os
                  have qc1 := fun dr os => cell_regrown c1 dr os
                  have qc2 := fun dr os => cell_regrown c2 dr os
                  have qc3 := fun dr os => cell_regrown c3 dr os
                  have hw1 : IntKind.i64.wrap ((k : Int) + 1) = (k : Int) + 1 := IntWalk.i64_in _ (by omega)
                  have hw2 : IntKind.i64.wrap ((j : Int) + 1) = (j : Int) + 1 := IntWalk.i64_in _ (by omega)
                  gi_wp2
                  refine regionR_q mixed (by kernel_rfl) (by kernel_rfl) ?_
                  repeat (go_big_quiet_step (first | (go_at_call 68; exact Calls.regrown_of (touch_is _ HA HB HD HE HTB.out))))
                  refine wpQuiet_nil ?_
                  intro wq hbq
                  clear hw1 hw2 qf5 qf4 qf6 qf7 qf8 qf9 qc0 qc1 qc2 qc3
                  gi_wp2
                  exact ⟨keeps_of_below hbq, below_tail hbq hB, by omega, (hbq.cell (p := ⟨S2, 0, none⟩) (by dsimp only; omega)).trans f0, (hbq.cell (p := ⟨M + 1, 0, none⟩) (by dsimp only; omega)).trans f1, (hbq.cell (p := ⟨w.heap.size, 0, none⟩) (by dsimp only; omega)).trans f2, (hbq.cell (p := ⟨w.heap.size + 1, 0, none⟩) (by dsimp only; omega)).trans f3, (hbq.cell (p := ⟨M, 0, none⟩) (by dsimp only; omega)).trans f4, (hbq.cell (p := ⟨g6, 0, none⟩) (by dsimp only; omega)).trans f5, (hbq.cell (p := ⟨g7, 0, none⟩) (by dsimp only; omega)).trans f6, (hbq.cell (p := ⟨g7, 1, none⟩) (by dsimp only; omega)).trans f7, (hbq.cell (p := ⟨g7, 2, none⟩) (by dsimp only; omega)).trans f8, (hbq.cell (p := ⟨g7, 3, none⟩) (by dsimp only; omega)).trans f9, (hbq.frozen (p := ⟨w.heap.size + 1, 0, none⟩) (by dsimp only; omega)).trans z0, keeps_in hkp (hbq.mono (by omega)), fun i hi => (Nat.lt_succ_iff_lt_or_eq.1 hi).elim (u0_1.out i) (fun e => by subst e; exact HCF.out)⟩
              case done2 =>
                rintro m W2 hm ⟨hB, hk, f0, f1, f2, f3, f4, f5, f6, f7, f8, f9, z0, hkp, u1⟩
                cases hm
                gi_wp2
                exact ⟨hkA.trans hkp, hB, by omega, f1, f2, f3, f4, z0, fun i hi => (Nat.lt_succ_iff_lt_or_eq.1 hi).elim (u0.out i) (fun e => by subst e; rw [HSF.out, anyN_false u1.out]; rfl)⟩
              case stop2 =>
                rintro cd j W2 ⟨rfl, e2, hB, f2, hkp⟩
                gi_wp2
                exact ⟨hkA.trans hkp, rfl, e2, hB, f2⟩
              case start2 => exact ⟨hBb, Nat.zero_le _, e6, f0, f1, f2, f3, c0, c1, c2, c3, c4, z0, KeepsOthers.refl _, fun i hi => absurd hi (by omega)⟩
      case done =>
        rintro m D W hm hD ⟨hB, hk, f0, f1, f2, f3, z0, u0⟩ hK
        cases hm
        have hcb : crossBP l = false := by rw [HCB.out]; exact anyN_false u0.out
        have HCBF := Lib.hid hcb
        clear hcb u0
        have hK' : (W.setCell ⟨w.heap.size + 1, 0, none⟩ (.int .i64 0)).heap[D]? = some (.deferred (some [])) := by rw [Below.heap_setCell _ _ _ _ (by dsimp only; omega)]; exact hK
        gi_wp2
        refine ⟨by simp, .inl ⟨_, _, rfl, run_takeDeferred hK', ?_⟩⟩
        have hP := below_obj (B := w.heap.size) (D := D) (W := (W.setCell ⟨w.heap.size + 1, 0, none⟩ (.int .i64 0))) (.deferred none) (by omega) (by simpa using hB.size)
        have hr3 : ((W.setCell ⟨w.heap.size + 1, 0, none⟩ (.int .i64 0)).putObj D (.deferred none)).cell? ⟨w.heap.size + 1, 0, none⟩ = some (.int .i64 0) := by
          refine cell_putObj_def ⟨_, hK'⟩ ?_
          exact World.cell?_setCell_same' _ _ _ (by rw [f2]; rfl)
        exact ⟨.int .i64 0, by simp [results, Try.f27, go_sem, hr3], ret_int (by rw [HCBF.out]; rfl), (below_set hB (by dsimp only; omega) _).trans hP⟩
      case stop =>
        rintro D cd k W hD ⟨rfl, e2, hB, f2⟩ hK
        have HCBT := Lib.hid e2
        clear e2
        gi_wp2
        refine ⟨by simp, .inl ⟨_, _, rfl, run_takeDeferred hK, ?_⟩⟩
        have hP := below_obj (B := w.heap.size) (D := D) (W := W) (.deferred none) (by omega) hB.size
        have hr3 : (W.putObj D (.deferred none)).cell? ⟨w.heap.size + 1, 0, none⟩ = some (.int .i64 9) := cell_putObj_def ⟨_, hK⟩ f2
        exact ⟨.int .i64 9, by simp [results, Try.f27, go_sem, hr3], ret_int (by rw [HCBT.out]; rfl), hB.trans hP⟩
      case start => exact ⟨hB0, Nat.zero_le _, e5, f0, f1, e4, z1, fun i hi => absurd hi (by omega)⟩

end Go.Proofs.Ythiemglckmociaa
