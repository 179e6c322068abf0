/- The law OfficeLeans, walked. Conditions: the firm and the texts lie as said; the library's variables read as they were laid. -/
import Derived.Test.YthooacpfmjpdmaaGreatDoorOLeanP
import Derived.Test.YthooacpfmjpdmaaGreatDoorOAudit
namespace Go.Proofs.YthooacpfmjpdmaaGreatDoor
open Go.RowKit
/-- What holds while the own calendar is put together, d: the operations done. -/
def LeansI (c : Cal) (fa sa : Option Addr) (fc sc Z : Nat) (y : World) (v0 v1 v3 v4 v6 v7 v8 v9 v10 v11 v12 v13 v14 v15 v16 v17 v18 v19 v20 v21 v22 v23 v24 v39 v40 v41 v42 v43 v44 v45 v46 v47 v48 v49 v50 v51 v52 v53 v54 v55 v56 v57 v58 v59 v60 v61 v62 v63 v64 v65 v66 v67 v68 v69 v70 v71 v72 v73 v74 v75 v76 v77 v78 v79 v80 v81 v82 v83 v84 v85 v86 v87 v88 v89 v90 v91 v92 v93 v94 v95 v96 v97 v98 v99 v100 v101 v102 v103 v104 v105 v106 v107 v108 v109 v110 v111 v112 v113 v114 v115 v116 v117 v118 v119 v120 v121 v122 v123 v124 v125 v126 v127 v128 v129 v130 v131 v132 v133 v134 v135 v136 v137 v138 v139 v140 v141 v142 v143 v144 v145 v146 v147 v148 v149 v150 v151 v152 v153 v154 : Value) (d : Nat → Bool) (a : Act) (x : World) : Prop :=
  ∃ u5 u25 u26 u27 u28 u29 u30 u31 u32 u33 u34 u35 u36 u37 u38 : Value, a = ⟨#[v0, v1, .pointer (some ⟨Z, 0, none⟩), v3, v4, u5, v6, v7, v8, v9, v10, v11, v12, v13, v14, v15, v16, v17, v18, v19, v20, v21, v22, v23, v24, u25, u26, u27, u28, u29, u30, u31, u32, u33, u34, u35, u36, u37, u38, v39, v40, v41, v42, v43, v44, v45, v46, v47, v48, v49, v50, v51, v52, v53, v54, v55, v56, v57, v58, v59, v60, v61, v62, v63, v64, v65, v66, v67, v68, v69, v70, v71, v72, v73, v74, v75, v76, v77, v78, v79, v80, v81, v82, v83, v84, v85, v86, v87, v88, v89, v90, v91, v92, v93, v94, v95, v96, v97, v98, v99, v100, v101, v102, v103, v104, v105, v106, v107, v108, v109, v110, v111, v112, v113, v114, v115, v116, v117, v118, v119, v120, v121, v122, v123, v124, v125, v126, v127, v128, v129, v130, v131, v132, v133, v134, v135, v136, v137, v138, v139, v140, v141, v142, v143, v144, v145, v146, v147, v148, v149, v150, v151, v152, v153, v154], []⟩ ∧
    (Below y.heap.size y x) ∧
    (d 0 = true → u25 = .pointer (some ⟨Z, 1, none⟩)) ∧
    (d 1 = true → u26 = .pointer (some ⟨Z, 1, none⟩)) ∧
    (d 2 = true → u27 = .int .i64 c.first) ∧
    (d 4 = true → u29 = .pointer (some ⟨Z, 1, none⟩)) ∧
    (d 5 = true → u30 = .pointer (some ⟨Z, 2, none⟩)) ∧
    (d 6 = true → u31 = .slice fa c.free.length fc) ∧
    (d 7 = true → d 3 = true ∧ d 6 = true) ∧
    (d 9 = true → u34 = .pointer (some ⟨Z, 1, none⟩)) ∧
    (d 10 = true → u35 = .pointer (some ⟨Z, 3, none⟩)) ∧
    (d 11 = true → u36 = .slice sa c.still.length sc) ∧
    (d 12 = true → d 8 = true ∧ d 11 = true) ∧
    (d 13 = true → u38 = .agg #[.int .i64 c.first, u32, u37]) ∧
    (d 13 = true → d 7 = true ∧ d 12 = true) ∧
    (d 15 = true → d 13 = true ∧ d 14 = true) ∧
    (d 3 = true → d 7 = false → x.ownsRow y.heap.size 3 1 u28 0 []) ∧
    (d 7 = true → x.ownsRow y.heap.size 3 1 u32 c.free.length (cells1 c.free)) ∧
    (d 8 = true → d 12 = false → x.ownsRow y.heap.size 66 2 u33 0 []) ∧
    (d 12 = true → x.ownsRow y.heap.size 66 2 u37 c.still.length (cells2 c.still)) ∧
    (d 3 = true → d 7 = false → d 8 = true → d 12 = false → apt u28 u33) ∧
    (d 3 = true → d 7 = false → d 12 = true → apt u28 u37) ∧
    (d 7 = true → d 8 = true → d 12 = false → apt u32 u33) ∧
    (d 7 = true → d 12 = true → apt u32 u37) ∧
    (d 14 = true → ∃ (g : Nat) (cs : Nat → Value), u5 = .pointer (some ⟨g, 0, none⟩) ∧ y.heap.size ≤ g ∧ x.heap[g]? = some (.cells #[cs 0, cs 1, cs 2] 25 (0, 0)) ∧ (d 15 = true → cs 0 = .int .i64 c.first ∧ cs 1 = u32 ∧ cs 2 = u37) ∧ (d 3 = true → d 7 = false → u28.ownBlock ≠ some g) ∧ (d 7 = true → u32.ownBlock ≠ some g) ∧ (d 8 = true → d 12 = false → u33.ownBlock ≠ some g) ∧ (d 12 = true → u37.ownBlock ≠ some g))
set_option maxRecDepth 100000 in
set_option maxHeartbeats 4000000 in
theorem officeLeans_calls (v u : Value) (k : Int) (c : Cal) (l : List ByteArray) (w : World) (h : FirmAt w v k c) (hl : TextsAt w u l) (hb : Base w) :
    Gives Tryz.prog 12 #[v, u] w (.bool true) := by
  obtain ⟨fa, fc, sa, sc, rfl, hcal⟩ := h.open
  have HF := Lib.hid h
  have HC := Lib.hid hcal
  have HT := Lib.hid hl
  obtain ⟨ta, tc, rfl, -, -, -⟩ := hl
  have HB := Lib.hid hb
  have h9 := hb.nine
  have KN : Hid (∀ y, Below w.heap.size w y → Gives Tryz.prog 26 #[] y (.bool true)) := fun y hy => known_calls y (HB.out.below hy)
  clear h hcal hb
  unfold Gives
  obtain ⟨b1, hb1e⟩ : ∃ b, largeB c = b := ⟨_, rfl⟩
  obtain ⟨b2, hb2e⟩ : ∃ b, decide (150 < l.length) = b := ⟨_, rfl⟩
  have HL1 := Lib.hid hb1e
  have HL2 := Lib.hid hb2e
  clear hb1e hb2e
  cases b1 with
  | true =>
    go_enter Tryz.func12, Tryz.ntmps12
    go_wp2_with (first | (go_at_call 17; (with_reducible refine (Large_is (HF.out.below (by (repeat' (first | exact Below.refl _ _ | assumption | refine below_new ?_ _ | refine below_draw ?_ | refine below_tail (by assumption) ?_ | refine below_set ?_ (by first | omega | (simp <;> omega)) _)))) HL1.out).use ?_); intro w1 hb1 hz1 hc1 hf1; (try simp at hz1); have hy1 : w.heap.size < w1.heap.size := (by omega); have e10 : w1.cell? ⟨w.heap.size, 0, none⟩ = some (.int .i64 k) := (hc1 (w.heap.size) 0 (by first | omega | (simp <;> omega))).trans (by first | exact rfl | simp [go_sem]); have e11 : w1.cell? ⟨w.heap.size, 1, none⟩ = some (.int .i64 c.first) := (hc1 (w.heap.size) 1 (by first | omega | (simp <;> omega))).trans (by first | exact rfl | simp [go_sem]); have e12 : w1.cell? ⟨w.heap.size, 2, none⟩ = some (.slice fa c.free.length fc) := (hc1 (w.heap.size) 2 (by first | omega | (simp <;> omega))).trans (by first | exact rfl | simp [go_sem]); have e13 : w1.cell? ⟨w.heap.size, 3, none⟩ = some (.slice sa c.still.length sc) := (hc1 (w.heap.size) 3 (by first | omega | (simp <;> omega))).trans (by first | exact rfl | simp [go_sem]); clear hc1 hf1) | (go_at_call 26; refine (KN.out _ (by (repeat' (first | exact Below.refl _ _ | assumption | refine below_new ?_ _ | refine below_draw ?_ | refine below_tail (by assumption) ?_ | refine below_set ?_ (by first | omega | (simp <;> omega)) _)))).use ?_; intro wk hbk hzk hck hfk; clear hck hfk))
    go_ret
    exact ⟨rfl, by (repeat' (first | exact Below.refl _ _ | assumption | refine below_new ?_ _ | refine below_draw ?_ | refine below_tail (by assumption) ?_ | refine below_set ?_ (by first | omega | (simp <;> omega)) _))⟩
  | false =>
  cases b2 with
  | true =>
    go_enter Tryz.func12, Tryz.ntmps12
    go_wp2_with (first | (go_at_call 17; (with_reducible refine (Large_is (HF.out.below (by (repeat' (first | exact Below.refl _ _ | assumption | refine below_new ?_ _ | refine below_draw ?_ | refine below_tail (by assumption) ?_ | refine below_set ?_ (by first | omega | (simp <;> omega)) _)))) HL1.out).use ?_); intro w1 hb1 hz1 hc1 hf1; (try simp at hz1); have hy1 : w.heap.size < w1.heap.size := (by omega); have e10 : w1.cell? ⟨w.heap.size, 0, none⟩ = some (.int .i64 k) := (hc1 (w.heap.size) 0 (by first | omega | (simp <;> omega))).trans (by first | exact rfl | simp [go_sem]); have e11 : w1.cell? ⟨w.heap.size, 1, none⟩ = some (.int .i64 c.first) := (hc1 (w.heap.size) 1 (by first | omega | (simp <;> omega))).trans (by first | exact rfl | simp [go_sem]); have e12 : w1.cell? ⟨w.heap.size, 2, none⟩ = some (.slice fa c.free.length fc) := (hc1 (w.heap.size) 2 (by first | omega | (simp <;> omega))).trans (by first | exact rfl | simp [go_sem]); have e13 : w1.cell? ⟨w.heap.size, 3, none⟩ = some (.slice sa c.still.length sc) := (hc1 (w.heap.size) 3 (by first | omega | (simp <;> omega))).trans (by first | exact rfl | simp [go_sem]); clear hc1 hf1) | (go_at_call 18; (with_reducible refine (Long_is (HT.out.below (by (repeat' (first | exact Below.refl _ _ | assumption | refine below_new ?_ _ | refine below_draw ?_ | refine below_tail (by assumption) ?_ | refine below_set ?_ (by first | omega | (simp <;> omega)) _)))) HL2.out).use ?_); intro w2 hb2 hz2 hc2 hf2; (try simp at hz2); have hy2 : w.heap.size < w2.heap.size := (by omega); have e20 : w2.cell? ⟨w.heap.size, 0, none⟩ = some (.int .i64 k) := (hc2 (w.heap.size) 0 (by first | omega | (simp <;> omega))).trans (by first | exact e10 | simp [e10, hy1, go_sem]); have e21 : w2.cell? ⟨w.heap.size, 1, none⟩ = some (.int .i64 c.first) := (hc2 (w.heap.size) 1 (by first | omega | (simp <;> omega))).trans (by first | exact e11 | simp [e11, hy1, go_sem]); have e22 : w2.cell? ⟨w.heap.size, 2, none⟩ = some (.slice fa c.free.length fc) := (hc2 (w.heap.size) 2 (by first | omega | (simp <;> omega))).trans (by first | exact e12 | simp [e12, hy1, go_sem]); have e23 : w2.cell? ⟨w.heap.size, 3, none⟩ = some (.slice sa c.still.length sc) := (hc2 (w.heap.size) 3 (by first | omega | (simp <;> omega))).trans (by first | exact e13 | simp [e13, hy1, go_sem]); clear hc2 hf2 e10 e11 e12 e13 hy1) | (go_at_call 26; refine (KN.out _ (by (repeat' (first | exact Below.refl _ _ | assumption | refine below_new ?_ _ | refine below_draw ?_ | refine below_tail (by assumption) ?_ | refine below_set ?_ (by first | omega | (simp <;> omega)) _)))).use ?_; intro wk hbk hzk hck hfk; clear hck hfk))
    go_ret
    exact ⟨rfl, by (repeat' (first | exact Below.refl _ _ | assumption | refine below_new ?_ _ | refine below_draw ?_ | refine below_tail (by assumption) ?_ | refine below_set ?_ (by first | omega | (simp <;> omega)) _))⟩
  | false =>
  have hLf : c.free.length ≤ 60 ∧ c.still.length ≤ 60 := by
    have := HL1.out
    unfold largeB at this
    rw [Bool.or_eq_false_iff] at this
    exact ⟨Nat.le_of_not_lt (of_decide_eq_false this.1), Nat.le_of_not_lt (of_decide_eq_false this.2)⟩
  obtain ⟨hLf, hLs⟩ := hLf
  go_enter Tryz.func12, Tryz.ntmps12
  go_upto_region 3 with (first | (go_at_call 17; (with_reducible refine (Large_is (HF.out.below (by (repeat' (first | exact Below.refl _ _ | assumption | refine below_new ?_ _ | refine below_draw ?_ | refine below_tail (by assumption) ?_ | refine below_set ?_ (by first | omega | (simp <;> omega)) _)))) HL1.out).use ?_); intro w1 hb1 hz1 hc1 hf1; (try simp at hz1); have hy1 : w.heap.size < w1.heap.size := (by omega); have e10 := fun o => hc1 w.heap.size o (by simp); clear hc1 hf1) | (go_at_call 18; (with_reducible refine (Long_is (HT.out.below (by (repeat' (first | exact Below.refl _ _ | assumption | refine below_new ?_ _ | refine below_draw ?_ | refine below_tail (by assumption) ?_ | refine below_set ?_ (by first | omega | (simp <;> omega)) _)))) HL2.out).use ?_); intro w2 hb2 hz2 hc2 hf2; (try simp at hz2); have hz2w : w.heap.size < w2.heap.size := (by omega); have e20 := fun o => (hc2 w.heap.size o hy1).trans (e10 o); clear hc2 hf2))
  have hw2 : Hid (Below w.heap.size w w2) := by show Below _ _ _; (repeat' (first | exact Below.refl _ _ | assumption | refine below_new ?_ _ | refine below_draw ?_ | refine below_tail (by assumption) ?_ | refine below_set ?_ (by first | omega | (simp <;> omega)) _))
  have c0 : w2.cell? ⟨w.heap.size, 0, none⟩ = some (.int .i64 k) := by simp [e20, go_sem]
  have c1 : w2.cell? ⟨w.heap.size, 1, none⟩ = some (.int .i64 c.first) := by simp [e20, go_sem]
  have c2 : w2.cell? ⟨w.heap.size, 2, none⟩ = some (.slice fa c.free.length fc) := by simp [e20, go_sem]
  have c3 : w2.cell? ⟨w.heap.size, 3, none⟩ = some (.slice sa c.still.length sc) := by simp [e20, go_sem]
  clear e10 e20 hb1 hb2
  have HF2 : Hid (IntsAt w2 (.slice fa c.free.length fc) c.free) := by
    obtain ⟨fv, sv, e, hI, hP⟩ := HC.out.below hw2.out
    simp only [Value.agg.injEq, Array.mk.injEq, List.cons.injEq, and_true, true_and] at e
    rw [e.1]; exact hI
  have HP2 : Hid (PairsAt w2 (.slice sa c.still.length sc) c.still) := by
    obtain ⟨fv, sv, e, hI, hP⟩ := HC.out.below hw2.out
    simp only [Value.agg.injEq, Array.mk.injEq, List.cons.injEq, and_true, true_and] at e
    rw [e.2]; exact hP
  refine wp_region_inv mixed (by kernel_rfl) (LeansI c fa sa fc sc w.heap.size w2 (.agg #[.int .i64 k, .int .i64 c.first, .slice fa c.free.length fc, .slice sa c.still.length sc]) (.slice ta l.length tc) undef (.bool false) undef undef undef undef undef undef undef undef undef undef undef undef (.agg #[.int .i64 k, .int .i64 c.first, .slice fa c.free.length fc, .slice sa c.still.length sc]) (.bool false) (.bool false) (.slice ta l.length tc) (.bool false) (.bool false) undef undef undef undef undef undef undef undef undef undef undef undef undef undef undef undef undef undef undef undef undef undef undef undef undef undef undef undef undef undef undef undef undef undef undef undef undef undef undef undef undef undef undef undef undef undef undef undef undef undef undef undef undef undef undef undef undef undef undef undef undef undef undef undef undef undef undef undef undef undef undef undef undef undef undef undef undef undef undef undef undef undef undef undef undef undef undef undef undef undef undef undef undef undef undef undef undef undef undef undef undef undef undef undef undef undef undef undef undef undef undef undef undef undef undef undef undef) ?h0 ?hstep ?hend
  case h0 =>
    unfold LeansI
    refine ⟨_, _, _, _, _, _, _, _, _, _, _, _, _, _, _, rfl, below_draw (Below.refl _ _), ?_⟩
    simp only [Bool.false_eq_true, false_implies, and_self]
  case hstep =>
    intro d a x hI i hi hdi hed
    unfold LeansI at hI
    obtain ⟨u5, u25, u26, u27, u28, u29, u30, u31, u32, u33, u34, u35, u36, u37, u38, rfl, fb, f0, f1, f2, f4, f5, f6, fc7, f9, f10, f11, fc12, f13, fc13, fc15, fra, frf, frb, frs, fpab, fpas, fpfb, fpfs, fx⟩ := hI
    have hi' : i < 16 := hi
    clear hi
    rcases (show i = 0 ∨ i = 1 ∨ i = 2 ∨ i = 3 ∨ i = 4 ∨ i = 5 ∨ i = 6 ∨ i = 7 ∨ i = 8 ∨ i = 9 ∨ i = 10 ∨ i = 11 ∨ i = 12 ∨ i = 13 ∨ i = 14 ∨ i = 15 by omega) with rfl | rfl | rfl | rfl | rfl | rfl | rfl | rfl | rfl | rfl | rfl | rfl | rfl | rfl | rfl | rfl
    · skip
      have he := hed _ rfl
      simp only [Region.binds] at he
      try simp at he
      clear hed
      refine wpOp_step rfl (fun K hK => ?_)
      go_simp
      (try (refine hK _ _ ?_; clear hK K))
      unfold LeansI
      refine ⟨_, _, _, _, _, _, _, _, _, _, _, _, _, _, _, rfl, ?_⟩
      simp only [Nat.reduceBEq, Bool.false_or, Bool.true_or, beq_self_eq_true, forall_const]
      exact ⟨fb,
        (by first | exact (by trivial) | (intros; trivial)),
        (by first | exact f1 | (intros; trivial)),
        (by first | exact f2 | (intros; trivial)),
        (by first | exact f4 | (intros; trivial)),
        (by first | exact f5 | (intros; trivial)),
        (by first | exact f6 | (intros; trivial)),
        fc7,
        (by first | exact f9 | (intros; trivial)),
        (by first | exact f10 | (intros; trivial)),
        (by first | exact f11 | (intros; trivial)),
        fc12,
        (by first | exact f13 | (intros; trivial)),
        fc13,
        fc15,
        fra,
        frf,
        frb,
        frs,
        fpab,
        fpas,
        fpfb,
        fpfs,
        fx⟩
    · skip
      have he := hed _ rfl
      simp only [Region.binds] at he
      try simp at he
      clear hed
      have e0 : d 0 = true := by first | exact he | exact he.1 | exact he.2.1 | exact he.2.2.1 | exact he.2.2.2.1 | exact he.2.2.2.2.1 | exact he.2 | exact he.2.2 | exact he.2.2.2 | exact he.2.2.2.2
      have g0 := f0 e0
      subst g0
      refine wpOp_step rfl (fun K hK => ?_)
      go_simp
      (try (refine hK _ _ ?_; clear hK K))
      unfold LeansI
      refine ⟨_, _, _, _, _, _, _, _, _, _, _, _, _, _, _, rfl, ?_⟩
      simp only [Nat.reduceBEq, Bool.false_or, Bool.true_or, beq_self_eq_true, forall_const]
      exact ⟨fb,
        (by first | exact (by intros; trivial) | (intros; trivial)),
        (by first | exact (by trivial) | (intros; trivial)),
        (by first | exact f2 | (intros; trivial)),
        (by first | exact f4 | (intros; trivial)),
        (by first | exact f5 | (intros; trivial)),
        (by first | exact f6 | (intros; trivial)),
        fc7,
        (by first | exact f9 | (intros; trivial)),
        (by first | exact f10 | (intros; trivial)),
        (by first | exact f11 | (intros; trivial)),
        fc12,
        (by first | exact f13 | (intros; trivial)),
        fc13,
        fc15,
        fra,
        frf,
        frb,
        frs,
        fpab,
        fpas,
        fpfb,
        fpfs,
        fx⟩
    · skip
      have he := hed _ rfl
      simp only [Region.binds] at he
      try simp at he
      clear hed
      have e1 : d 1 = true := by first | exact he | exact he.1 | exact he.2.1 | exact he.2.2.1 | exact he.2.2.2.1 | exact he.2.2.2.2.1 | exact he.2 | exact he.2.2 | exact he.2.2.2 | exact he.2.2.2.2
      have g1 := f1 e1
      subst g1
      refine wpOp_step rfl (fun K hK => ?_)
      have qc1 := (fb.cell (p := ⟨w.heap.size, 1, none⟩) (by dsimp only; omega)).trans c1
      go_simp
      (try (refine hK _ _ ?_; clear hK K))
      unfold LeansI
      refine ⟨_, _, _, _, _, _, _, _, _, _, _, _, _, _, _, rfl, ?_⟩
      simp only [Nat.reduceBEq, Bool.false_or, Bool.true_or, beq_self_eq_true, forall_const]
      exact ⟨fb,
        (by first | exact f0 | (intros; trivial)),
        (by first | exact (by intros; trivial) | (intros; trivial)),
        (by first | exact (by trivial) | (intros; trivial)),
        (by first | exact f4 | (intros; trivial)),
        (by first | exact f5 | (intros; trivial)),
        (by first | exact f6 | (intros; trivial)),
        fc7,
        (by first | exact f9 | (intros; trivial)),
        (by first | exact f10 | (intros; trivial)),
        (by first | exact f11 | (intros; trivial)),
        fc12,
        (by first | exact f13 | (intros; trivial)),
        fc13,
        fc15,
        fra,
        frf,
        frb,
        frs,
        fpab,
        fpas,
        fpfb,
        fpfs,
        fx⟩
    · skip
      have he := hed _ rfl
      simp only [Region.binds] at he
      try simp at he
      clear hed
      have hb3 : Below x.heap.size x (x.alloc (.cells #[] 3)) := (Below.refl _ _).alloc (Nat.le_refl _) _
      have hof : Hid ((x.alloc (.cells #[] 3)).ownsRow x.heap.size 3 1 (.slice (some ⟨x.heap.size, 0, none⟩) 0 0) 0 []) := World.ownsRow_made (base := x.heap.size) (e := 3) (size := 1) x #[] 0 (Nat.le_refl _) (by decide) (by simp)
      refine wpOp_step rfl (fun K hK => ?_)
      go_simp
      replace hof := hof.out
      (try (refine hK _ _ ?_; clear hK K))
      unfold LeansI
      refine ⟨_, _, _, _, _, _, _, _, _, _, _, _, _, _, _, rfl, ?_⟩
      simp only [Nat.reduceBEq, Bool.false_or, Bool.true_or, beq_self_eq_true, forall_const]
      exact ⟨below_tail hb3 fb,
        (by first | exact f0 | (intros; trivial)),
        (by first | exact f1 | (intros; trivial)),
        (by first | exact f2 | (intros; trivial)),
        (by first | exact f4 | (intros; trivial)),
        (by first | exact f5 | (intros; trivial)),
        (by first | exact f6 | (intros; trivial)),
        fun h7 => ⟨trivial, (fc7 h7).2⟩,
        (by first | exact f9 | (intros; trivial)),
        (by first | exact f10 | (intros; trivial)),
        (by first | exact f11 | (intros; trivial)),
        fc12,
        (by first | exact f13 | (intros; trivial)),
        fc13,
        fc15,
        fun h7n => own_base hof fb.size,
        fun h7 => own_below (frf h7) hb3,
        fun h8 h12n => own_below (frb h8 h12n) hb3,
        fun h12 => own_below (frs h12) hb3,
        fun h7n h8 h12n => apt_symm (apt_new (frb h8 h12n) hof (Nat.le_refl _)),
        fun h7n h12 => apt_symm (apt_new (frs h12) hof (Nat.le_refl _)),
        fpfb,
        fpfs,
        fun hal => let ⟨g, cs, e, hg, hx, h13, hna, hnf, hnb, hns⟩ := fx hal; ⟨g, cs, e, hg, blk_below hx hb3, h13, fun h7n => fun hk => absurd ((hof.lt g hk).1) (Nat.not_le.2 (Array.getElem?_eq_some_iff.1 hx).1), hnf, hnb, hns⟩⟩
    · skip
      have he := hed _ rfl
      simp only [Region.binds] at he
      try simp at he
      clear hed
      refine wpOp_step rfl (fun K hK => ?_)
      go_simp
      (try (refine hK _ _ ?_; clear hK K))
      unfold LeansI
      refine ⟨_, _, _, _, _, _, _, _, _, _, _, _, _, _, _, rfl, ?_⟩
      simp only [Nat.reduceBEq, Bool.false_or, Bool.true_or, beq_self_eq_true, forall_const]
      exact ⟨fb,
        (by first | exact f0 | (intros; trivial)),
        (by first | exact f1 | (intros; trivial)),
        (by first | exact f2 | (intros; trivial)),
        (by first | exact (by trivial) | (intros; trivial)),
        (by first | exact f5 | (intros; trivial)),
        (by first | exact f6 | (intros; trivial)),
        fc7,
        (by first | exact f9 | (intros; trivial)),
        (by first | exact f10 | (intros; trivial)),
        (by first | exact f11 | (intros; trivial)),
        fc12,
        (by first | exact f13 | (intros; trivial)),
        fc13,
        fc15,
        fra,
        frf,
        frb,
        frs,
        fpab,
        fpas,
        fpfb,
        fpfs,
        fx⟩
    · skip
      have he := hed _ rfl
      simp only [Region.binds] at he
      try simp at he
      clear hed
      have e4 : d 4 = true := by first | exact he | exact he.1 | exact he.2.1 | exact he.2.2.1 | exact he.2.2.2.1 | exact he.2.2.2.2.1 | exact he.2 | exact he.2.2 | exact he.2.2.2 | exact he.2.2.2.2
      have g4 := f4 e4
      subst g4
      refine wpOp_step rfl (fun K hK => ?_)
      go_simp
      (try (refine hK _ _ ?_; clear hK K))
      unfold LeansI
      refine ⟨_, _, _, _, _, _, _, _, _, _, _, _, _, _, _, rfl, ?_⟩
      simp only [Nat.reduceBEq, Bool.false_or, Bool.true_or, beq_self_eq_true, forall_const]
      exact ⟨fb,
        (by first | exact f0 | (intros; trivial)),
        (by first | exact f1 | (intros; trivial)),
        (by first | exact f2 | (intros; trivial)),
        (by first | exact (by intros; trivial) | (intros; trivial)),
        (by first | exact (by trivial) | (intros; trivial)),
        (by first | exact f6 | (intros; trivial)),
        fc7,
        (by first | exact f9 | (intros; trivial)),
        (by first | exact f10 | (intros; trivial)),
        (by first | exact f11 | (intros; trivial)),
        fc12,
        (by first | exact f13 | (intros; trivial)),
        fc13,
        fc15,
        fra,
        frf,
        frb,
        frs,
        fpab,
        fpas,
        fpfb,
        fpfs,
        fx⟩
    · skip
      have he := hed _ rfl
      simp only [Region.binds] at he
      try simp at he
      clear hed
      have e5 : d 5 = true := by first | exact he | exact he.1 | exact he.2.1 | exact he.2.2.1 | exact he.2.2.2.1 | exact he.2.2.2.2.1 | exact he.2 | exact he.2.2 | exact he.2.2.2 | exact he.2.2.2.2
      have g5 := f5 e5
      subst g5
      refine wpOp_step rfl (fun K hK => ?_)
      have qc2 := (fb.cell (p := ⟨w.heap.size, 2, none⟩) (by dsimp only; omega)).trans c2
      go_simp
      (try (refine hK _ _ ?_; clear hK K))
      unfold LeansI
      refine ⟨_, _, _, _, _, _, _, _, _, _, _, _, _, _, _, rfl, ?_⟩
      simp only [Nat.reduceBEq, Bool.false_or, Bool.true_or, beq_self_eq_true, forall_const]
      exact ⟨fb,
        (by first | exact f0 | (intros; trivial)),
        (by first | exact f1 | (intros; trivial)),
        (by first | exact f2 | (intros; trivial)),
        (by first | exact f4 | (intros; trivial)),
        (by first | exact (by intros; trivial) | (intros; trivial)),
        (by first | exact (by trivial) | (intros; trivial)),
        fun h7 => ⟨(fc7 h7).1, trivial⟩,
        (by first | exact f9 | (intros; trivial)),
        (by first | exact f10 | (intros; trivial)),
        (by first | exact f11 | (intros; trivial)),
        fc12,
        (by first | exact f13 | (intros; trivial)),
        fc13,
        fc15,
        fra,
        frf,
        frb,
        frs,
        fpab,
        fpas,
        fpfb,
        fpfs,
        fx⟩
    · skip
      have he := hed _ rfl
      simp only [Region.binds] at he
      try simp at he
      clear hed
      have e6 : d 6 = true := by first | exact he | exact he.1 | exact he.2.1 | exact he.2.2.1 | exact he.2.2.2.1 | exact he.2.2.2.2.1 | exact he.2 | exact he.2.2 | exact he.2.2.2 | exact he.2.2.2.2
      have e3 : d 3 = true := by first | exact he | exact he.1 | exact he.2.1 | exact he.2.2.1 | exact he.2.2.2.1 | exact he.2.2.2.2.1 | exact he.2 | exact he.2.2 | exact he.2.2.2 | exact he.2.2.2.2
      have g6 := f6 e6
      subst g6
      have hos := (fra e3 hdi)
      obtain ⟨i0, hi0, hz0, hi1, hi2⟩ := info_parts infoInt
      refine wpOp_step rfl (fun K hK => ?_)
      refine step_append_any (by rfl) _ _ _ (by rfl) w2.heap.size 3 i0 (.int .i64 0) 1 8 Tryz.underlying22 hi0 hz0 hi1 hi2 (by rfl) (by decide) u28 0 [] (by rfl) hos _ c.free.length (cells1 c.free) (by rfl) (ints_src (HF2.out.below fb)) (by unfold maxLen; omega) (by omega) fb.size ?_
      intro v5 w5 hown5 hgrow hat
      simp only [Nat.zero_add, List.nil_append] at hown5
      (try (refine hK _ _ ?_; clear hK K))
      unfold LeansI
      refine ⟨_, _, _, _, _, _, _, _, _, _, _, _, _, _, _, rfl, ?_⟩
      simp only [Nat.reduceBEq, Bool.false_or, Bool.true_or, beq_self_eq_true, Bool.true_eq_false, false_implies, forall_const]
      exact ⟨below_grow fb hgrow (fun k hk => (hos.lt k hk).1),
        (by first | exact f0 | (intros; trivial)),
        (by first | exact f1 | (intros; trivial)),
        (by first | exact f2 | (intros; trivial)),
        (by first | exact f4 | (intros; trivial)),
        (by first | exact f5 | (intros; trivial)),
        (by first | exact (by intros; trivial) | (intros; trivial)),
        ⟨e3, e6⟩,
        (by first | exact f9 | (intros; trivial)),
        (by first | exact f10 | (intros; trivial)),
        (by first | exact f11 | (intros; trivial)),
        fc12,
        (by first | exact fun h13 => not_both ((fc13 h13).1) hdi | (intros; trivial)),
        fun h13 => ⟨trivial, (fc13 h13).2⟩,
        fc15,
        (by intros; trivial),
        hown5,
        fun h8 h12n => (frb h8 h12n).kept hgrow (apt_or (apt_symm (fpab e3 hdi h8 h12n))),
        fun h12 => (frs h12).kept hgrow (apt_or (apt_symm (fpas e3 hdi h12))),
        (by intros; trivial),
        (by intros; trivial),
        fun h8 h12n => apt_symm (apt_app (frb h8 h12n) (apt_symm (fpab e3 hdi h8 h12n)) hat),
        fun h12 => apt_symm (apt_app (frs h12) (apt_symm (fpas e3 hdi h12)) hat),
        fun hal => let ⟨g, cs, e, hg, hx, h13, hna, hnf, hnb, hns⟩ := fx hal; ⟨g, cs, e, hg, (hgrow.block g (Array.getElem?_eq_some_iff.1 hx).1 (fun e => hna e3 hdi e.symm)).trans hx, fun h15 => not_both ((fc13 (fc15 h15).1).1) hdi, (by intros; trivial), ne_app (Array.getElem?_eq_some_iff.1 hx).1 (hna e3 hdi) hat, hnb, hns⟩⟩
    · skip
      have he := hed _ rfl
      simp only [Region.binds] at he
      try simp at he
      clear hed
      have hb3 : Below x.heap.size x (x.alloc (.cells #[] 66)) := (Below.refl _ _).alloc (Nat.le_refl _) _
      have hof : Hid ((x.alloc (.cells #[] 66)).ownsRow x.heap.size 66 2 (.slice (some ⟨x.heap.size, 0, none⟩) 0 0) 0 []) := World.ownsRow_made (base := x.heap.size) (e := 66) (size := 2) x #[] 0 (Nat.le_refl _) (by decide) (by simp)
      refine wpOp_step rfl (fun K hK => ?_)
      go_simp
      replace hof := hof.out
      (try (refine hK _ _ ?_; clear hK K))
      unfold LeansI
      refine ⟨_, _, _, _, _, _, _, _, _, _, _, _, _, _, _, rfl, ?_⟩
      simp only [Nat.reduceBEq, Bool.false_or, Bool.true_or, beq_self_eq_true, forall_const]
      exact ⟨below_tail hb3 fb,
        (by first | exact f0 | (intros; trivial)),
        (by first | exact f1 | (intros; trivial)),
        (by first | exact f2 | (intros; trivial)),
        (by first | exact f4 | (intros; trivial)),
        (by first | exact f5 | (intros; trivial)),
        (by first | exact f6 | (intros; trivial)),
        fc7,
        (by first | exact f9 | (intros; trivial)),
        (by first | exact f10 | (intros; trivial)),
        (by first | exact f11 | (intros; trivial)),
        fun h12 => ⟨trivial, (fc12 h12).2⟩,
        (by first | exact f13 | (intros; trivial)),
        fc13,
        fc15,
        fun h3 h7n => own_below (fra h3 h7n) hb3,
        fun h7 => own_below (frf h7) hb3,
        fun h12n => own_base hof fb.size,
        fun h12 => own_below (frs h12) hb3,
        fun h3 h7n h12n => apt_new (fra h3 h7n) hof (Nat.le_refl _),
        fpas,
        fun h7 h12n => apt_new (frf h7) hof (Nat.le_refl _),
        fpfs,
        fun hal => let ⟨g, cs, e, hg, hx, h13, hna, hnf, hnb, hns⟩ := fx hal; ⟨g, cs, e, hg, blk_below hx hb3, h13, hna, hnf, fun h12n => fun hk => absurd ((hof.lt g hk).1) (Nat.not_le.2 (Array.getElem?_eq_some_iff.1 hx).1), hns⟩⟩
    · skip
      have he := hed _ rfl
      simp only [Region.binds] at he
      try simp at he
      clear hed
      refine wpOp_step rfl (fun K hK => ?_)
      go_simp
      (try (refine hK _ _ ?_; clear hK K))
      unfold LeansI
      refine ⟨_, _, _, _, _, _, _, _, _, _, _, _, _, _, _, rfl, ?_⟩
      simp only [Nat.reduceBEq, Bool.false_or, Bool.true_or, beq_self_eq_true, forall_const]
      exact ⟨fb,
        (by first | exact f0 | (intros; trivial)),
        (by first | exact f1 | (intros; trivial)),
        (by first | exact f2 | (intros; trivial)),
        (by first | exact f4 | (intros; trivial)),
        (by first | exact f5 | (intros; trivial)),
        (by first | exact f6 | (intros; trivial)),
        fc7,
        (by first | exact (by trivial) | (intros; trivial)),
        (by first | exact f10 | (intros; trivial)),
        (by first | exact f11 | (intros; trivial)),
        fc12,
        (by first | exact f13 | (intros; trivial)),
        fc13,
        fc15,
        fra,
        frf,
        frb,
        frs,
        fpab,
        fpas,
        fpfb,
        fpfs,
        fx⟩
    · skip
      have he := hed _ rfl
      simp only [Region.binds] at he
      try simp at he
      clear hed
      have e9 : d 9 = true := by first | exact he | exact he.1 | exact he.2.1 | exact he.2.2.1 | exact he.2.2.2.1 | exact he.2.2.2.2.1 | exact he.2 | exact he.2.2 | exact he.2.2.2 | exact he.2.2.2.2
      have g9 := f9 e9
      subst g9
      refine wpOp_step rfl (fun K hK => ?_)
      go_simp
      (try (refine hK _ _ ?_; clear hK K))
      unfold LeansI
      refine ⟨_, _, _, _, _, _, _, _, _, _, _, _, _, _, _, rfl, ?_⟩
      simp only [Nat.reduceBEq, Bool.false_or, Bool.true_or, beq_self_eq_true, forall_const]
      exact ⟨fb,
        (by first | exact f0 | (intros; trivial)),
        (by first | exact f1 | (intros; trivial)),
        (by first | exact f2 | (intros; trivial)),
        (by first | exact f4 | (intros; trivial)),
        (by first | exact f5 | (intros; trivial)),
        (by first | exact f6 | (intros; trivial)),
        fc7,
        (by first | exact (by intros; trivial) | (intros; trivial)),
        (by first | exact (by trivial) | (intros; trivial)),
        (by first | exact f11 | (intros; trivial)),
        fc12,
        (by first | exact f13 | (intros; trivial)),
        fc13,
        fc15,
        fra,
        frf,
        frb,
        frs,
        fpab,
        fpas,
        fpfb,
        fpfs,
        fx⟩
    · skip
      have he := hed _ rfl
      simp only [Region.binds] at he
      try simp at he
      clear hed
      have e10 : d 10 = true := by first | exact he | exact he.1 | exact he.2.1 | exact he.2.2.1 | exact he.2.2.2.1 | exact he.2.2.2.2.1 | exact he.2 | exact he.2.2 | exact he.2.2.2 | exact he.2.2.2.2
      have g10 := f10 e10
      subst g10
      refine wpOp_step rfl (fun K hK => ?_)
      have qc3 := (fb.cell (p := ⟨w.heap.size, 3, none⟩) (by dsimp only; omega)).trans c3
      go_simp
      (try (refine hK _ _ ?_; clear hK K))
      unfold LeansI
      refine ⟨_, _, _, _, _, _, _, _, _, _, _, _, _, _, _, rfl, ?_⟩
      simp only [Nat.reduceBEq, Bool.false_or, Bool.true_or, beq_self_eq_true, forall_const]
      exact ⟨fb,
        (by first | exact f0 | (intros; trivial)),
        (by first | exact f1 | (intros; trivial)),
        (by first | exact f2 | (intros; trivial)),
        (by first | exact f4 | (intros; trivial)),
        (by first | exact f5 | (intros; trivial)),
        (by first | exact f6 | (intros; trivial)),
        fc7,
        (by first | exact f9 | (intros; trivial)),
        (by first | exact (by intros; trivial) | (intros; trivial)),
        (by first | exact (by trivial) | (intros; trivial)),
        fun h12 => ⟨(fc12 h12).1, trivial⟩,
        (by first | exact f13 | (intros; trivial)),
        fc13,
        fc15,
        fra,
        frf,
        frb,
        frs,
        fpab,
        fpas,
        fpfb,
        fpfs,
        fx⟩
    · skip
      have he := hed _ rfl
      simp only [Region.binds] at he
      try simp at he
      clear hed
      have e11 : d 11 = true := by first | exact he | exact he.1 | exact he.2.1 | exact he.2.2.1 | exact he.2.2.2.1 | exact he.2.2.2.2.1 | exact he.2 | exact he.2.2 | exact he.2.2.2 | exact he.2.2.2.2
      have e8 : d 8 = true := by first | exact he | exact he.1 | exact he.2.1 | exact he.2.2.1 | exact he.2.2.2.1 | exact he.2.2.2.2.1 | exact he.2 | exact he.2.2 | exact he.2.2.2 | exact he.2.2.2.2
      have g11 := f11 e11
      subst g11
      have hos := (frb e8 hdi)
      obtain ⟨i0, hi0, hz0, hi1, hi2⟩ := info_parts infoSpan
      refine wpOp_step rfl (fun K hK => ?_)
      refine step_append_any (by rfl) _ _ _ (by rfl) w2.heap.size 66 i0 (.agg #[.int .i64 0, .int .i64 0]) 2 16 Tryz.underlying23 hi0 hz0 hi1 hi2 (by rfl) (by decide) u33 0 [] (by rfl) hos _ c.still.length (cells2 c.still) (by rfl) (pairs_src (HP2.out.below fb)) (by unfold maxLen; omega) (by omega) fb.size ?_
      intro v5 w5 hown5 hgrow hat
      simp only [Nat.zero_add, List.nil_append] at hown5
      (try (refine hK _ _ ?_; clear hK K))
      unfold LeansI
      refine ⟨_, _, _, _, _, _, _, _, _, _, _, _, _, _, _, rfl, ?_⟩
      simp only [Nat.reduceBEq, Bool.false_or, Bool.true_or, beq_self_eq_true, Bool.true_eq_false, false_implies, forall_const]
      exact ⟨below_grow fb hgrow (fun k hk => (hos.lt k hk).1),
        (by first | exact f0 | (intros; trivial)),
        (by first | exact f1 | (intros; trivial)),
        (by first | exact f2 | (intros; trivial)),
        (by first | exact f4 | (intros; trivial)),
        (by first | exact f5 | (intros; trivial)),
        (by first | exact f6 | (intros; trivial)),
        fc7,
        (by first | exact f9 | (intros; trivial)),
        (by first | exact f10 | (intros; trivial)),
        (by first | exact (by intros; trivial) | (intros; trivial)),
        ⟨e8, e11⟩,
        (by first | exact fun h13 => not_both ((fc13 h13).2) hdi | (intros; trivial)),
        fun h13 => ⟨(fc13 h13).1, trivial⟩,
        fc15,
        fun h3 h7n => (fra h3 h7n).kept hgrow (apt_or (fpab h3 h7n e8 hdi)),
        fun h7 => (frf h7).kept hgrow (apt_or (fpfb h7 e8 hdi)),
        (by intros; trivial),
        hown5,
        (by intros; trivial),
        fun h3 h7n => apt_app (fra h3 h7n) (fpab h3 h7n e8 hdi) hat,
        (by intros; trivial),
        fun h7 => apt_app (frf h7) (fpfb h7 e8 hdi) hat,
        fun hal => let ⟨g, cs, e, hg, hx, h13, hna, hnf, hnb, hns⟩ := fx hal; ⟨g, cs, e, hg, (hgrow.block g (Array.getElem?_eq_some_iff.1 hx).1 (fun e => hnb e8 hdi e.symm)).trans hx, fun h15 => not_both ((fc13 (fc15 h15).1).2) hdi, hna, hnf, (by intros; trivial), ne_app (Array.getElem?_eq_some_iff.1 hx).1 (hnb e8 hdi) hat⟩⟩
    · skip
      have he := hed _ rfl
      simp only [Region.binds] at he
      try simp at he
      clear hed
      have e2 : d 2 = true := by first | exact he | exact he.1 | exact he.2.1 | exact he.2.2.1 | exact he.2.2.2.1 | exact he.2.2.2.2.1 | exact he.2 | exact he.2.2 | exact he.2.2.2 | exact he.2.2.2.2
      have e7 : d 7 = true := by first | exact he | exact he.1 | exact he.2.1 | exact he.2.2.1 | exact he.2.2.2.1 | exact he.2.2.2.2.1 | exact he.2 | exact he.2.2 | exact he.2.2.2 | exact he.2.2.2.2
      have e12 : d 12 = true := by first | exact he | exact he.1 | exact he.2.1 | exact he.2.2.1 | exact he.2.2.2.1 | exact he.2.2.2.2.1 | exact he.2 | exact he.2.2 | exact he.2.2.2 | exact he.2.2.2.2
      have g2 := f2 e2
      subst g2
      obtain ⟨a32, p32, q32⟩ := own_slice (frf e7)
      subst q32
      obtain ⟨a37, p37, q37⟩ := own_slice (frs e12)
      subst q37
      refine wpOp_step rfl (fun K hK => ?_)
      go_simp
      (try (refine hK _ _ ?_; clear hK K))
      unfold LeansI
      refine ⟨_, _, _, _, _, _, _, _, _, _, _, _, _, _, _, rfl, ?_⟩
      simp only [Nat.reduceBEq, Bool.false_or, Bool.true_or, beq_self_eq_true, forall_const]
      exact ⟨fb,
        (by first | exact f0 | (intros; trivial)),
        (by first | exact f1 | (intros; trivial)),
        (by first | exact (by intros; trivial) | (intros; trivial)),
        (by first | exact f4 | (intros; trivial)),
        (by first | exact f5 | (intros; trivial)),
        (by first | exact f6 | (intros; trivial)),
        fc7,
        (by first | exact f9 | (intros; trivial)),
        (by first | exact f10 | (intros; trivial)),
        (by first | exact f11 | (intros; trivial)),
        fc12,
        (by first | exact (by trivial) | (intros; trivial)),
        ⟨e7, e12⟩,
        fun h15 => ⟨trivial, (fc15 h15).2⟩,
        fra,
        frf,
        frb,
        frs,
        fpab,
        fpas,
        fpfb,
        fpfs,
        fx⟩
    · skip
      have he := hed _ rfl
      simp only [Region.binds] at he
      try simp at he
      clear hed
      have hb3 : Below x.heap.size x (x.alloc (.cells #[.int .i64 0, .slice none 0 0, .slice none 0 0] 25)) := (Below.refl _ _).alloc (Nat.le_refl _) _
      have hblk : Hid ((x.alloc (.cells #[.int .i64 0, .slice none 0 0, .slice none 0 0] 25)).heap[x.heap.size]? = some (.cells #[.int .i64 0, .slice none 0 0, .slice none 0 0] 25 (0, 0))) := World.alloc_heap_new _ _
      refine wpOp_step rfl (fun K hK => ?_)
      go_simp
      replace hblk := hblk.out
      (try (refine hK _ _ ?_; clear hK K))
      unfold LeansI
      refine ⟨_, _, _, _, _, _, _, _, _, _, _, _, _, _, _, rfl, ?_⟩
      simp only [Nat.reduceBEq, Bool.false_or, Bool.true_or, beq_self_eq_true, forall_const]
      exact ⟨below_tail hb3 fb,
        (by first | exact f0 | (intros; trivial)),
        (by first | exact f1 | (intros; trivial)),
        (by first | exact f2 | (intros; trivial)),
        (by first | exact f4 | (intros; trivial)),
        (by first | exact f5 | (intros; trivial)),
        (by first | exact f6 | (intros; trivial)),
        fc7,
        (by first | exact f9 | (intros; trivial)),
        (by first | exact f10 | (intros; trivial)),
        (by first | exact f11 | (intros; trivial)),
        fc12,
        (by first | exact f13 | (intros; trivial)),
        fc13,
        fun h15 => ⟨(fc15 h15).1, trivial⟩,
        fun h3 h7n => own_below (fra h3 h7n) hb3,
        fun h7 => own_below (frf h7) hb3,
        fun h8 h12n => own_below (frb h8 h12n) hb3,
        fun h12 => own_below (frs h12) hb3,
        fpab,
        fpas,
        fpfb,
        fpfs,
        ⟨_, fun i => if i = 0 then .int .i64 0 else if i = 1 then .slice none 0 0 else .slice none 0 0, rfl, fb.size, hblk, fun h15 => not_both ((fc15 h15).2) hdi, fun h3 h7n => ne_new (fra h3 h7n) (Nat.le_refl _), fun h7 => ne_new (frf h7) (Nat.le_refl _), fun h8 h12n => ne_new (frb h8 h12n) (Nat.le_refl _), fun h12 => ne_new (frs h12) (Nat.le_refl _)⟩⟩
    · skip
      have he := hed _ rfl
      simp only [Region.binds] at he
      try simp at he
      clear hed
      have e13 : d 13 = true := by first | exact he | exact he.1 | exact he.2.1 | exact he.2.2.1 | exact he.2.2.2.1 | exact he.2.2.2.2.1 | exact he.2 | exact he.2.2 | exact he.2.2.2 | exact he.2.2.2.2
      have e14 : d 14 = true := by first | exact he | exact he.1 | exact he.2.1 | exact he.2.2.1 | exact he.2.2.2.1 | exact he.2.2.2.2.1 | exact he.2 | exact he.2.2 | exact he.2.2.2 | exact he.2.2.2.2
      have g13 := f13 e13
      subst g13
      obtain ⟨g, cs, e7, hg, hx, h13, hna, hnf, hnb, hns⟩ := fx e14
      subst e7
      obtain ⟨a32, p32, q32⟩ := own_slice (frf (fc13 e13).1)
      subst q32
      obtain ⟨a37, p37, q37⟩ := own_slice (frs (fc13 e13).2)
      subst q37
      have k0 := cell_of_block hx 0
      have l0 := frozen_of_block hx 0
      have k1 := cell_of_block hx 1
      have l1 := frozen_of_block hx 1
      have k2 := cell_of_block hx 2
      have l2 := frozen_of_block hx 2
      simp at k0 k1 k2
      have hgr : Hid (x.grownBy (((x.setCell ⟨g, 0, none⟩ (.int .i64 c.first)).setCell ⟨g, 1, none⟩ (.slice a32 c.free.length p32)).setCell ⟨g, 2, none⟩ (.slice a37 c.still.length p37)) (some g)) := (grown_trans (grown_trans (grown_set x ⟨g, 0, none⟩ (.int .i64 c.first)) (grown_set (x.setCell ⟨g, 0, none⟩ (.int .i64 c.first)) ⟨g, 1, none⟩ (.slice a32 c.free.length p32))) (grown_set ((x.setCell ⟨g, 0, none⟩ (.int .i64 c.first)).setCell ⟨g, 1, none⟩ (.slice a32 c.free.length p32)) ⟨g, 2, none⟩ (.slice a37 c.still.length p37)))
      have hblk : Hid ((((x.setCell ⟨g, 0, none⟩ (.int .i64 c.first)).setCell ⟨g, 1, none⟩ (.slice a32 c.free.length p32)).setCell ⟨g, 2, none⟩ (.slice a37 c.still.length p37)).heap[g]? = some (.cells #[.int .i64 c.first, .slice a32 c.free.length p32, .slice a37 c.still.length p37] 25 (0, 0))) := (block_set (block_set (block_set hx 0 _) 1 _) 2 _)
      have HX := Lib.hid hx
      clear hx
      refine wpOp_step rfl (fun K hK => ?_)
      go_simp
      replace hgr := hgr.out
      replace hblk := hblk.out
      (try (refine hK _ _ ?_; clear hK K))
      unfold LeansI
      refine ⟨_, _, _, _, _, _, _, _, _, _, _, _, _, _, _, rfl, ?_⟩
      simp only [Nat.reduceBEq, Bool.false_or, Bool.true_or, beq_self_eq_true, forall_const]
      exact ⟨below_grow fb hgr (fun k hk => by cases hk; exact hg),
        (by first | exact f0 | (intros; trivial)),
        (by first | exact f1 | (intros; trivial)),
        (by first | exact f2 | (intros; trivial)),
        (by first | exact f4 | (intros; trivial)),
        (by first | exact f5 | (intros; trivial)),
        (by first | exact f6 | (intros; trivial)),
        fc7,
        (by first | exact f9 | (intros; trivial)),
        (by first | exact f10 | (intros; trivial)),
        (by first | exact f11 | (intros; trivial)),
        fc12,
        (by first | exact (by intros; trivial) | (intros; trivial)),
        fc13,
        ⟨e13, e14⟩,
        fun h3 h7n => (fra h3 h7n).kept hgr (apt_some (hna h3 h7n)),
        fun h7 => (frf h7).kept hgr (apt_some (hnf h7)),
        fun h8 h12n => (frb h8 h12n).kept hgr (apt_some (hnb h8 h12n)),
        fun h12 => (frs h12).kept hgr (apt_some (hns h12)),
        fpab,
        fpas,
        fpfb,
        fpfs,
        fun _ => ⟨g, fun i => if i = 0 then (.int .i64 c.first) else if i = 1 then (.slice a32 c.free.length p32) else (.slice a37 c.still.length p37), rfl, hg, hblk, ⟨rfl, rfl, rfl⟩, hna, hnf, hnb, hns⟩⟩
  case hend =>
    intro d a x hI hall
    unfold LeansI at hI
    obtain ⟨u5, u25, u26, u27, u28, u29, u30, u31, u32, u33, u34, u35, u36, u37, u38, rfl, fb, f0, f1, f2, f4, f5, f6, fc7, f9, f10, f11, fc12, f13, fc13, fc15, fra, frf, frb, frs, fpab, fpas, fpfb, fpfs, fx⟩ := hI
    have hl0 := hall 0 (show 0 < 16 by omega)
    have hl1 := hall 1 (show 1 < 16 by omega)
    have hl2 := hall 2 (show 2 < 16 by omega)
    have hl3 := hall 3 (show 3 < 16 by omega)
    have hl4 := hall 4 (show 4 < 16 by omega)
    have hl5 := hall 5 (show 5 < 16 by omega)
    have hl6 := hall 6 (show 6 < 16 by omega)
    have hl7 := hall 7 (show 7 < 16 by omega)
    have hl8 := hall 8 (show 8 < 16 by omega)
    have hl9 := hall 9 (show 9 < 16 by omega)
    have hl10 := hall 10 (show 10 < 16 by omega)
    have hl11 := hall 11 (show 11 < 16 by omega)
    have hl12 := hall 12 (show 12 < 16 by omega)
    have hl13 := hall 13 (show 13 < 16 by omega)
    have hl14 := hall 14 (show 14 < 16 by omega)
    have hl15 := hall 15 (show 15 < 16 by omega)
    have g0 := f0 hl0
    subst g0
    have g1 := f1 hl1
    subst g1
    have g2 := f2 hl2
    subst g2
    have g4 := f4 hl4
    subst g4
    have g5 := f5 hl5
    subst g5
    have g6 := f6 hl6
    subst g6
    have g9 := f9 hl9
    subst g9
    have g10 := f10 hl10
    subst g10
    have g11 := f11 hl11
    subst g11
    have g13 := f13 hl13
    subst g13
    have orf := frf hl7
    have ors := frs hl12
    have opfs := fpfs hl7 hl12
    obtain ⟨g, cs, e7, hg, hx, h13, hna, hnf, hnb, hns⟩ := fx hl14
    obtain ⟨ex0, ex1, ex2⟩ := h13 hl15
    rw [ex0, ex1, ex2] at hx
    subst e7
    replace hnf := hnf hl7
    replace hns := hns hl12
    clear fx h13 ex0 ex1 ex2
    clear hna
    clear hnb
    clear f0 f1 f2 f4 f5 f6 fc7 f9 f10 f11 fc12 f13 fc13 fc15 fra frf frb frs fpab fpas fpfb fpfs
    clear hall hl0 hl1 hl2 hl3 hl4 hl5 hl6 hl7 hl8 hl9 hl10 hl11 hl12 hl13 hl14 hl15
    obtain ⟨a32, p32, q32⟩ := own_slice orf
    obtain ⟨a37, p37, q37⟩ := own_slice ors
    subst q32 q37
    have hwx : Below w.heap.size w x := Below.trans hw2.out (fb.mono hw2.out.size)
    have hsx := fb.size
    have hgx : g < x.heap.size := (Array.getElem?_eq_some_iff.1 hx).1
    have e0 : x.cell? ⟨w.heap.size, 0, none⟩ = some (.int .i64 k) := (fb.cell (p := ⟨w.heap.size, 0, none⟩) (by dsimp only; omega)).trans c0
    have k0 := cell_of_block hx 0
    have k1 := cell_of_block hx 1
    have k2 := cell_of_block hx 2
    simp at k0 k1 k2
    have HCalOwn : Hid (CalAt x (.agg #[.int .i64 c.first, .slice a32 c.free.length p32, .slice a37 c.still.length p37]) c) := ⟨_, _, rfl, own_ints orf, own_pairs ors⟩
    have HFO : Hid (FirmAt x (.agg #[.int .i64 k, .int .i64 c.first, .slice a32 c.free.length p32, .slice a37 c.still.length p37]) k c) := ⟨_, _, rfl, HCalOwn.out⟩
    have HRF := Lib.hid (own_rowN (m := x.heap.size) (s := 0) orf rfl (Nat.le_refl _))
    have HRS := Lib.hid (own_rowN2 (m := x.heap.size) (s := 0) ors rfl (Nat.le_refl _))
    have HBX := Lib.hid hx
    have HRF' : Hid (∀ s, RowN w2.heap.size x.heap.size s x (.slice a32 c.free.length p32) c.free.length) := fun s => own_rowN (m := x.heap.size) (s := s) orf rfl (Nat.le_refl _)
    have HRS' : Hid (∀ s, RowN2 w2.heap.size x.heap.size s x (.slice a37 c.still.length p37) c.still.length) := fun s => own_rowN2 (m := x.heap.size) (s := s) ors rfl (Nat.le_refl _)
    have HWX := Lib.hid hwx
    clear hx orf ors opfs HRF HRS hwx HCalOwn
    by_cases hz : NewE k c = 0
    case neg =>
      go_wp2_with (first
        | (go_at_call 29; (with_reducible refine (done_no _ _ k c l _ HFO.out (HT.out.below HWX.out) hz).use ?_); intro w5 hb5 hz5 hc5 hf5; clear hc5 hf5; have hQ := Lib.hid (Below.trans HWX.out (hb5.mono HWX.out.size)))
        | (go_at_call 26; refine (KN.out _ hQ.out).use ?_; intro wk hbk hzk hck hfk; clear hck hfk))
      go_ret
      exact ⟨rfl, Below.trans hQ.out (hbk.mono hQ.out.size)⟩
    have HZ := Lib.hid hz
    clear hz
    go_wp2_with (go_at_call 29; (with_reducible refine (done_yes _ _ k c l _ HFO.out (HT.out.below HWX.out) (HB.out.below HWX.out) HZ.out).mono ?_); rintro e w5 ⟨B, rfl, ho, hb5⟩; have HO5 := Lib.hid ho; clear ho; have HB5 := Lib.hid hb5; have hz5 := hb5.size; clear hb5)
    have hlb : Hid (LeanB w2.heap.size x.heap.size w5.heap.size w2 w5 w5) := ⟨fb.trans (HB5.out.mono hsx), Mid.refl _ _ _, Nat.le_refl _⟩
    have hrf : Hid (RowN w2.heap.size x.heap.size w5.heap.size w5 (.slice a32 c.free.length p32) c.free.length) := (HRF'.out _).below HB5.out
    have hrs : Hid (RowN2 w2.heap.size x.heap.size w5.heap.size w5 (.slice a37 c.still.length p37) c.still.length) := (HRS'.out _).below HB5.out
    have hbx : Hid (w5.heap[g]? = some (.cells #[.int .i64 c.first, .slice a32 c.free.length p32, .slice a37 c.still.length p37] 25 (0, 0))) := (HB5.out.block g hgx).trans HBX.out
    have hq5 : w2.heap.size ≤ w5.heap.size := Nat.le_trans hsx hz5
    clear HRF' HRS' HBX HB5 HFO
    go_loopw [7] (fun i wr => ∃ i0 : Nat, i0 ≤ c.free.length ∧ i = .int .i64 i0 ∧ Hid (LeanB w2.heap.size x.heap.size w5.heap.size w2 w5 wr) ∧ Hid (RowN w2.heap.size x.heap.size w5.heap.size wr (.slice a32 c.free.length p32) c.free.length) ∧ Hid (RowN2 w2.heap.size x.heap.size w5.heap.size wr (.slice a37 c.still.length p37) c.still.length) ∧ Hid (wr.heap[g]? = some (.cells #[.int .i64 c.first, .slice a32 c.free.length p32, .slice a37 c.still.length p37] 25 (0, 0)))) (fun i _ => c.free.length - (intOf i).toNat)
    case atStart => exact ⟨0, Nat.zero_le _, rfl, hlb, hrf, hrs, hbx⟩
    case round =>
      clear hlb hrf hrs hbx k1 k2 k0
      obtain ⟨i0, hi0, rfl, hlb, hrf, hrs, hbx⟩ := hrel
      have k1 := cell_of_block hbx.out 1
      simp at k1
      by_cases hlt : i0 < c.free.length
      · have hgk : decide ((i0 : Int) < (c.free.length : Int)) = true := by simpa using hlt
        obtain ⟨a0, p0, e0, hcap, hmax, hcl⟩ := id hrf.out
        injection e0 with e01 _ e02
        subst e01 e02
        obtain ⟨b, o, rfl, hlb1, hq1, hms, ⟨y0, hcell⟩, hfz⟩ := hcl i0 hlt
        clear hcl
        have hbg : b ≠ g := fun e => hnf (by rw [e]; rfl)
        have hw6 : IntKind.i64.wrap ((i0 : Int) + 1) = (i0 : Int) + 1 := IntWalk.i64_in _ (by omega)
        go_wp2
        go_roundw
        case rel => exact ⟨i0 + 1, by omega, by go_num, hlb.out.set hq1 hms _, hrf.out.set _ _, hrs.out.set _ _, box_set hbx.out hbg _⟩
        case measure => simp [intOf]; omega
      · have hgk : decide ((i0 : Int) < (c.free.length : Int)) = false := by simpa using hlt
        clear hrf
        go_wp2
        go_loopw [8] (fun i wr => ∃ i0 : Nat, i0 ≤ c.still.length ∧ i = .int .i64 i0 ∧ Hid (LeanB w2.heap.size x.heap.size w5.heap.size w2 w5 wr) ∧ Hid (RowN2 w2.heap.size x.heap.size w5.heap.size wr (.slice a37 c.still.length p37) c.still.length) ∧ Hid (wr.heap[g]? = some (.cells #[.int .i64 c.first, .slice a32 c.free.length p32, .slice a37 c.still.length p37] 25 (0, 0)))) (fun i _ => c.still.length - (intOf i).toNat)
        case atStart => exact ⟨0, Nat.zero_le _, rfl, hlb, hrs, hbx⟩
        case round =>
          clear hlb hrs hbx k1
          obtain ⟨i0, hi0, rfl, hlb, hrs, hbx⟩ := hrel
          have k2 := cell_of_block hbx.out 2
          simp at k2
          by_cases hlt : i0 < c.still.length
          · have hgk : decide ((i0 : Int) < (c.still.length : Int)) = true := by simpa using hlt
            obtain ⟨a0, p0, e0, hcap, hmax, hcl⟩ := id hrs.out
            injection e0 with e01 _ e02
            subst e01 e02
            obtain ⟨b, o, rfl, hlb1, hq1, hms, ⟨y0, hcell⟩, hfz⟩ := hcl i0 hlt
            clear hcl
            have hbg : b ≠ g := fun e => hns (by rw [e]; rfl)
            have hw6 : IntKind.i64.wrap ((i0 : Int) + 1) = (i0 : Int) + 1 := IntWalk.i64_in _ (by omega)
            go_wp2
            go_roundw
            case rel => exact ⟨i0 + 1, by omega, by go_num, hlb.out.set hq1 hms _, hrs.out.set _ _, box_set hbx.out hbg _⟩
            case measure => simp [intOf]; omega
          · have hgk : decide ((i0 : Int) < (c.still.length : Int)) = false := by simpa using hlt
            clear hrs hbx
            have HO : Hid (OffS x.heap.size wr B k.toNat (doneO k c l)) := HO5.out.mid hlb.out.mid
            obtain ⟨NA, hNA⟩ : ∃ n, (doneO k c l).s.strips.length = n := ⟨_, rfl⟩
            obtain ⟨NB, hNB⟩ : ∃ n, (doneO k c l).s.laid.length = n := ⟨_, rfl⟩
            obtain ⟨NC, hNC⟩ : ∃ n, (clmF (doneO k c l).s).length = n := ⟨_, rfl⟩
            obtain ⟨ND, hND⟩ : ∃ n, (opnF (doneO k c l).s.opn).length = n := ⟨_, rfl⟩
            have HNA := Lib.hid hNA
            have HNB := Lib.hid hNB
            have HNC := Lib.hid hNC
            have HND := Lib.hid hND
            clear hNA hNB hNC hND
            go_wp2_with (first
              | (go_at_call 44; (with_reducible refine (HO.out.strips).use ?_); intro vA w11 hi hb11; have hra0 := hi.rowN (q := w2.heap.size) (m := x.heap.size) (s := w5.heap.size) (Nat.le_trans hq5 hlb.out.siz) hlb.out.siz; clear hi; rw [HNA.out] at hra0; obtain ⟨ra, qa, era, hra1⟩ := id hra0; subst era; have hra : Hid (RowN w2.heap.size x.heap.size w5.heap.size w11 (.slice ra NA qa) NA) := hra0; clear hra0 hra1; replace hlb := Lib.hid (hlb.out.below hb11 (Nat.le_trans hq5 hlb.out.siz)); replace HO := Lib.hid (HO.out.below hb11); clear hb11)
              | (go_at_call 31; (with_reducible refine (HO.out.laid).use ?_); intro vBx w12 hi hb12; have hrb0 := hi.rowN (q := w2.heap.size) (m := x.heap.size) (s := w5.heap.size) (Nat.le_trans hq5 hlb.out.siz) hlb.out.siz; clear hi; rw [HNB.out] at hrb0; obtain ⟨rb, qb, erb, hrb1⟩ := id hrb0; subst erb; have hrb : Hid (RowN w2.heap.size x.heap.size w5.heap.size w12 (.slice rb NB qb) NB) := hrb0; clear hrb0 hrb1; replace hlb := Lib.hid (hlb.out.below hb12 (Nat.le_trans hq5 hlb.out.siz)); replace HO := Lib.hid (HO.out.below hb12); replace hra := Lib.hid (hra.out.below hb12); clear hb12)
              | (go_at_call 30; (with_reducible refine (HO.out.clm).use ?_); intro vCx w13 hi hb13; have hrc0 := hi.rowN (q := w2.heap.size) (m := x.heap.size) (s := w5.heap.size) (Nat.le_trans hq5 hlb.out.siz) hlb.out.siz; clear hi; rw [HNC.out] at hrc0; obtain ⟨rc, qc, erc, hrc1⟩ := id hrc0; subst erc; have hrc : Hid (RowN w2.heap.size x.heap.size w5.heap.size w13 (.slice rc NC qc) NC) := hrc0; clear hrc0 hrc1; replace hlb := Lib.hid (hlb.out.below hb13 (Nat.le_trans hq5 hlb.out.siz)); replace HO := Lib.hid (HO.out.below hb13); replace hra := Lib.hid (hra.out.below hb13); replace hrb := Lib.hid (hrb.out.below hb13); clear hb13)
              | (go_at_call 35; (with_reducible refine (HO.out.opn).use ?_); intro vDx w14 hi hb14; have hrd0 := hi.rowN (q := w2.heap.size) (m := x.heap.size) (s := w5.heap.size) (Nat.le_trans hq5 hlb.out.siz) hlb.out.siz; clear hi; rw [HND.out] at hrd0; obtain ⟨rd, qd, erd, hrd1⟩ := id hrd0; subst erd; have hrd : Hid (RowN w2.heap.size x.heap.size w5.heap.size w14 (.slice rd ND qd) ND) := hrd0; clear hrd0 hrd1; replace hlb := Lib.hid (hlb.out.below hb14 (Nat.le_trans hq5 hlb.out.siz)); replace HO := Lib.hid (HO.out.below hb14); replace hra := Lib.hid (hra.out.below hb14); replace hrb := Lib.hid (hrb.out.below hb14); replace hrc := Lib.hid (hrc.out.below hb14); clear hb14))
            clear HO
            go_loopw [13] (fun i wr => ∃ i0 : Nat, i0 ≤ NA ∧ i = .int .i64 i0 ∧ Hid (LeanB w2.heap.size x.heap.size w5.heap.size w2 w5 wr) ∧ Hid (RowN w2.heap.size x.heap.size w5.heap.size wr (.slice ra NA qa) NA) ∧ Hid (RowN w2.heap.size x.heap.size w5.heap.size wr (.slice rb NB qb) NB) ∧ Hid (RowN w2.heap.size x.heap.size w5.heap.size wr (.slice rc NC qc) NC) ∧ Hid (RowN w2.heap.size x.heap.size w5.heap.size wr (.slice rd ND qd) ND)) (fun i _ => NA - (intOf i).toNat)
            case atStart => exact ⟨0, Nat.zero_le _, rfl, hlb, hra, hrb, hrc, hrd⟩
            case round =>
              clear hlb hra hrb hrc hrd
              obtain ⟨i0, hi0, rfl, hlb, hra, hrb, hrc, hrd⟩ := hrel
              by_cases hlt : i0 < NA
              · have hgk : decide ((i0 : Int) < (NA : Int)) = true := by simpa using hlt
                obtain ⟨a0, p0, e0, hcap, hmax, hcl⟩ := id hra.out
                injection e0 with e01 _ e02
                subst e01 e02
                obtain ⟨b, o, rfl, hlb1, hq1, hms, ⟨y0, hcell⟩, hfz⟩ := hcl i0 hlt
                clear hcl
                have hw6 : IntKind.i64.wrap ((i0 : Int) + 1) = (i0 : Int) + 1 := IntWalk.i64_in _ (by omega)
                go_wp2
                go_roundw
                case rel => exact ⟨i0 + 1, by omega, by go_num, hlb.out.set hq1 hms _, hra.out.set _ _, hrb.out.set _ _, hrc.out.set _ _, hrd.out.set _ _⟩
                case measure => simp [intOf]; omega
              · have hgk : decide ((i0 : Int) < (NA : Int)) = false := by simpa using hlt
                clear hra
                go_wp2
                go_loopw [14] (fun i wr => ∃ i0 : Nat, i0 ≤ NB ∧ i = .int .i64 i0 ∧ Hid (LeanB w2.heap.size x.heap.size w5.heap.size w2 w5 wr) ∧ Hid (RowN w2.heap.size x.heap.size w5.heap.size wr (.slice rb NB qb) NB) ∧ Hid (RowN w2.heap.size x.heap.size w5.heap.size wr (.slice rc NC qc) NC) ∧ Hid (RowN w2.heap.size x.heap.size w5.heap.size wr (.slice rd ND qd) ND)) (fun i _ => NB - (intOf i).toNat)
                case atStart => exact ⟨0, Nat.zero_le _, rfl, hlb, hrb, hrc, hrd⟩
                case round =>
                  clear hlb hrb hrc hrd
                  obtain ⟨i0, hi0, rfl, hlb, hrb, hrc, hrd⟩ := hrel
                  by_cases hlt : i0 < NB
                  · have hgk : decide ((i0 : Int) < (NB : Int)) = true := by simpa using hlt
                    obtain ⟨a0, p0, e0, hcap, hmax, hcl⟩ := id hrb.out
                    injection e0 with e01 _ e02
                    subst e01 e02
                    obtain ⟨b, o, rfl, hlb1, hq1, hms, ⟨y0, hcell⟩, hfz⟩ := hcl i0 hlt
                    clear hcl
                    have hw6 : IntKind.i64.wrap ((i0 : Int) + 1) = (i0 : Int) + 1 := IntWalk.i64_in _ (by omega)
                    go_wp2
                    go_roundw
                    case rel => exact ⟨i0 + 1, by omega, by go_num, hlb.out.set hq1 hms _, hrb.out.set _ _, hrc.out.set _ _, hrd.out.set _ _⟩
                    case measure => simp [intOf]; omega
                  · have hgk : decide ((i0 : Int) < (NB : Int)) = false := by simpa using hlt
                    clear hrb
                    go_wp2
                    go_loopw [15] (fun i wr => ∃ i0 : Nat, i0 ≤ NC ∧ i = .int .i64 i0 ∧ Hid (LeanB w2.heap.size x.heap.size w5.heap.size w2 w5 wr) ∧ Hid (RowN w2.heap.size x.heap.size w5.heap.size wr (.slice rc NC qc) NC) ∧ Hid (RowN w2.heap.size x.heap.size w5.heap.size wr (.slice rd ND qd) ND)) (fun i _ => NC - (intOf i).toNat)
                    case atStart => exact ⟨0, Nat.zero_le _, rfl, hlb, hrc, hrd⟩
                    case round =>
                      clear hlb hrc hrd
                      obtain ⟨i0, hi0, rfl, hlb, hrc, hrd⟩ := hrel
                      by_cases hlt : i0 < NC
                      · have hgk : decide ((i0 : Int) < (NC : Int)) = true := by simpa using hlt
                        obtain ⟨a0, p0, e0, hcap, hmax, hcl⟩ := id hrc.out
                        injection e0 with e01 _ e02
                        subst e01 e02
                        obtain ⟨b, o, rfl, hlb1, hq1, hms, ⟨y0, hcell⟩, hfz⟩ := hcl i0 hlt
                        clear hcl
                        have hw6 : IntKind.i64.wrap ((i0 : Int) + 1) = (i0 : Int) + 1 := IntWalk.i64_in _ (by omega)
                        go_wp2
                        go_roundw
                        case rel => exact ⟨i0 + 1, by omega, by go_num, hlb.out.set hq1 hms _, hrc.out.set _ _, hrd.out.set _ _⟩
                        case measure => simp [intOf]; omega
                      · have hgk : decide ((i0 : Int) < (NC : Int)) = false := by simpa using hlt
                        clear hrc
                        go_wp2
                        go_loopw [16] (fun i wr => ∃ i0 : Nat, i0 ≤ ND ∧ i = .int .i64 i0 ∧ Hid (LeanB w2.heap.size x.heap.size w5.heap.size w2 w5 wr) ∧ Hid (RowN w2.heap.size x.heap.size w5.heap.size wr (.slice rd ND qd) ND)) (fun i _ => ND - (intOf i).toNat)
                        case atStart => exact ⟨0, Nat.zero_le _, rfl, hlb, hrd⟩
                        case round =>
                          clear hlb hrd
                          obtain ⟨i0, hi0, rfl, hlb, hrd⟩ := hrel
                          by_cases hlt : i0 < ND
                          · have hgk : decide ((i0 : Int) < (ND : Int)) = true := by simpa using hlt
                            obtain ⟨a0, p0, e0, hcap, hmax, hcl⟩ := id hrd.out
                            injection e0 with e01 _ e02
                            subst e01 e02
                            obtain ⟨b, o, rfl, hlb1, hq1, hms, ⟨y0, hcell⟩, hfz⟩ := hcl i0 hlt
                            clear hcl
                            have hw6 : IntKind.i64.wrap ((i0 : Int) + 1) = (i0 : Int) + 1 := IntWalk.i64_in _ (by omega)
                            go_wp2
                            go_roundw
                            case rel => exact ⟨i0 + 1, by omega, by go_num, hlb.out.set hq1 hms _, hrd.out.set _ _⟩
                            case measure => simp [intOf]; omega
                          · have hgk : decide ((i0 : Int) < (ND : Int)) = false := by simpa using hlt
                            clear hrd
                            have hQ : Hid (Below w.heap.size w wr) := Below.trans hw2.out (Below.mono hlb.out.bel hw2.out.size)
                            have HO : Hid (OffS x.heap.size wr B k.toNat (doneO k c l)) := HO5.out.mid hlb.out.mid
                            have e4q0 : ∀ o, wr.cell? ⟨w.heap.size, o, none⟩ = w2.cell? ⟨w.heap.size, o, none⟩ := fun o => hlb.out.bel.cell (p := ⟨w.heap.size, o, none⟩) hz2w
                            have f0 : wr.cell? ⟨w.heap.size, 0, none⟩ = some (.int .i64 k) := (e4q0 0).trans c0
                            have f1 : wr.cell? ⟨w.heap.size, 1, none⟩ = some (.int .i64 c.first) := (e4q0 1).trans c1
                            have f2 : wr.cell? ⟨w.heap.size, 2, none⟩ = some (.slice fa c.free.length fc) := (e4q0 2).trans c2
                            have f3 : wr.cell? ⟨w.heap.size, 3, none⟩ = some (.slice sa c.still.length sc) := (e4q0 3).trans c3
                            clear hlb e4q0
                            go_wp2_with (first
                              | (go_at_call 29; (with_reducible refine (done_yes _ _ k c l _ (HF.out.below hQ.out) (HT.out.below hQ.out) (HB.out.below hQ.out) HZ.out).mono ?_); rintro e w20 ⟨B2, rfl, ho, hb20⟩; have HP := Lib.hid ho; clear ho; replace HO := Lib.hid (HO.out.below hb20); replace hQ := Lib.hid (Below.trans hQ.out (hb20.mono hQ.out.size)); clear hb20)
                              | (go_at_call 44; (with_reducible refine (HO.out.strips).use ?_); intro vIA w21 hi hb21; have IA := Lib.hid hi.1; clear hi; replace HO := Lib.hid (HO.out.below hb21); replace HP := Lib.hid (HP.out.below hb21); replace hQ := Lib.hid (Below.trans hQ.out (hb21.mono hQ.out.size)); clear hb21)
                              | (go_at_call 44; (with_reducible refine (HP.out.strips).use ?_); intro vIB w22 hi hb22; have IB := Lib.hid hi.1; clear hi; replace HO := Lib.hid (HO.out.below hb22); replace HP := Lib.hid (HP.out.below hb22); replace IA := Lib.hid (IA.out.below hb22); replace hQ := Lib.hid (Below.trans hQ.out (hb22.mono hQ.out.size)); clear hb22)
                              | (go_at_call 24; (with_reducible refine (sameInts_is (t := true) IA.out IB.out (by simp)).use ?_); intro w23 hb23 hz23 hc23 hf23; clear hc23 hf23 hz23 IA IB; replace HO := Lib.hid (HO.out.below hb23); replace HP := Lib.hid (HP.out.below hb23); replace hQ := Lib.hid (Below.trans hQ.out (hb23.mono hQ.out.size)); clear hb23)
                              | (go_at_call 31; (with_reducible refine (HO.out.laid).use ?_); intro vIC w24 hi hb24; have IC := Lib.hid hi.1; clear hi; replace HO := Lib.hid (HO.out.below hb24); replace HP := Lib.hid (HP.out.below hb24); replace hQ := Lib.hid (Below.trans hQ.out (hb24.mono hQ.out.size)); clear hb24)
                              | (go_at_call 31; (with_reducible refine (HP.out.laid).use ?_); intro vID w25 hi hb25; have ID := Lib.hid hi.1; clear hi; replace HO := Lib.hid (HO.out.below hb25); replace HP := Lib.hid (HP.out.below hb25); replace IC := Lib.hid (IC.out.below hb25); replace hQ := Lib.hid (Below.trans hQ.out (hb25.mono hQ.out.size)); clear hb25)
                              | (go_at_call 24; (with_reducible refine (sameInts_is (t := true) IC.out ID.out (by simp)).use ?_); intro w26 hb26 hz26 hc26 hf26; clear hc26 hf26 hz26 IC ID; replace HO := Lib.hid (HO.out.below hb26); replace HP := Lib.hid (HP.out.below hb26); replace hQ := Lib.hid (Below.trans hQ.out (hb26.mono hQ.out.size)); clear hb26)
                              | (go_at_call 30; (with_reducible refine (HO.out.clm).use ?_); intro vIE w27 hi hb27; have IE := Lib.hid hi.1; clear hi; replace HO := Lib.hid (HO.out.below hb27); replace HP := Lib.hid (HP.out.below hb27); replace hQ := Lib.hid (Below.trans hQ.out (hb27.mono hQ.out.size)); clear hb27)
                              | (go_at_call 30; (with_reducible refine (HP.out.clm).use ?_); intro vIF w28 hi hb28; have IF := Lib.hid hi.1; clear hi; replace HO := Lib.hid (HO.out.below hb28); replace HP := Lib.hid (HP.out.below hb28); replace IE := Lib.hid (IE.out.below hb28); replace hQ := Lib.hid (Below.trans hQ.out (hb28.mono hQ.out.size)); clear hb28)
                              | (go_at_call 24; (with_reducible refine (sameInts_is (t := true) IE.out IF.out (by simp)).use ?_); intro w29 hb29 hz29 hc29 hf29; clear hc29 hf29 hz29 IE IF; replace HO := Lib.hid (HO.out.below hb29); replace HP := Lib.hid (HP.out.below hb29); replace hQ := Lib.hid (Below.trans hQ.out (hb29.mono hQ.out.size)); clear hb29)
                              | (go_at_call 35; (with_reducible refine (HO.out.opn).use ?_); intro vIG w30 hi hb30; have IG := Lib.hid hi.1; clear hi; replace HO := Lib.hid (HO.out.below hb30); replace HP := Lib.hid (HP.out.below hb30); replace hQ := Lib.hid (Below.trans hQ.out (hb30.mono hQ.out.size)); clear hb30)
                              | (go_at_call 35; (with_reducible refine (HP.out.opn).use ?_); intro vIH w31 hi hb31; have IH := Lib.hid hi.1; clear hi; replace HO := Lib.hid (HO.out.below hb31); replace HP := Lib.hid (HP.out.below hb31); replace IG := Lib.hid (IG.out.below hb31); replace hQ := Lib.hid (Below.trans hQ.out (hb31.mono hQ.out.size)); clear hb31)
                              | (go_at_call 24; (with_reducible refine (sameInts_is (t := true) IG.out IH.out (by simp)).use ?_); intro w32 hb32 hz32 hc32 hf32; clear hc32 hf32 hz32 IG IH; replace HO := Lib.hid (HO.out.below hb32); replace HP := Lib.hid (HP.out.below hb32); replace hQ := Lib.hid (Below.trans hQ.out (hb32.mono hQ.out.size)); clear hb32)
                              | (go_at_call 43; (with_reducible refine (Audit_calls HO.out (HB.out.below hQ.out)).use ?_); intro w33 hb33 hz33 hc33 hf33; clear hc33 hf33 hz33; replace HO := Lib.hid (HO.out.below hb33); replace HP := Lib.hid (HP.out.below hb33); replace hQ := Lib.hid (Below.trans hQ.out (hb33.mono hQ.out.size)); clear hb33)
                              | (go_at_call 26; refine (KN.out _ hQ.out).use ?_; intro wk hbk hzk hck hfk; clear hck hfk))
                            go_ret
                            exact ⟨rfl, Below.trans hQ.out (hbk.mono hQ.out.size)⟩
end Go.Proofs.YthooacpfmjpdmaaGreatDoor
