/- The law TermWith: its walk. Conditions: a calendar lies in memory as said. -/
import Derived.Test.YtnhohnnoffhkhaaTermKnown
import Derived.Test.YtnhohnnoffhkhaaTermWithR
import Derived.Test.YtnhohnnoffhkhaaSame
namespace Go.Proofs.Ytnhohnnoffhkhaa
open Go.RowKit

/-- What holds while the own calendar is put together, d: the operations done. -/
def WithLI (c : Cal) (fa sa : Option Addr) (fc sc B : Nat) (y : World) (v0 v1 v2 v6 v8 v9 v10 v11 v12 v13 v14 v15 v16 v17 v18 v19 v20 v32 v33 v34 v35 v36 v37 v38 v39 v40 v41 v42 v43 v44 v45 v46 v47 v48 v49 v50 v51 v52 v53 v54 v55 v56 v57 v58 v59 v60 v61 v62 v63 v64 v65 v66 v67 v68 v69 v70 v71 v72 v73 v74 v75 v76 v77 v78 v79 v80 v81 v82 v83 v84 v85 v86 v87 v88 v89 v90 v91 v92 v93 v94 v95 v96 v97 v98 v99 v100 v101 v102 v103 v104 v105 v106 v107 v108 v109 v110 v111 v112 v113 : Value) (d : Nat → Bool) (a : Act) (x : World) : Prop :=
  ∃ u7 u21 u22 u23 u24 u25 u26 u27 u28 u29 u30 u31 : Value, a = ⟨#[v0, v1, v2, .pointer (some ⟨B, 0, none⟩), .pointer (some ⟨B + 1, 0, none⟩), .pointer (some ⟨B + 1 + 1, 0, none⟩), v6, u7, v8, v9, v10, v11, v12, v13, v14, v15, v16, v17, v18, v19, v20, u21, u22, u23, u24, u25, u26, u27, u28, u29, u30, u31, v32, v33, v34, v35, v36, v37, v38, v39, v40, v41, v42, v43, v44, v45, v46, v47, v48, v49, v50, v51, v52, v53, v54, v55, v56, v57, v58, v59, v60, v61, v62, v63, v64, v65, v66, v67, v68, v69, v70, v71, v72, v73, v74, v75, v76, v77, v78, v79, v80, v81, v82, v83, v84, v85, v86, v87, v88, v89, v90, v91, v92, v93, v94, v95, v96, v97, v98, v99, v100, v101, v102, v103, v104, v105, v106, v107, v108, v109, v110, v111, v112, v113], []⟩ ∧
    (Below y.heap.size y x) ∧
    (d 0 = true → u21 = .pointer (some ⟨B, 0, none⟩)) ∧
    (d 1 = true → u22 = .int .i64 c.first) ∧
    (d 3 = true → u24 = .pointer (some ⟨B, 1, none⟩)) ∧
    (d 4 = true → u25 = .slice fa c.free.length fc) ∧
    (d 5 = true → d 2 = true ∧ d 4 = true) ∧
    (d 7 = true → u28 = .pointer (some ⟨B, 2, none⟩)) ∧
    (d 8 = true → u29 = .slice sa c.still.length sc) ∧
    (d 9 = true → d 6 = true ∧ d 8 = true) ∧
    (d 10 = true → u31 = .agg #[.int .i64 c.first, u26, u30]) ∧
    (d 10 = true → d 5 = true ∧ d 9 = true) ∧
    (d 12 = true → d 10 = true ∧ d 11 = true) ∧
    (d 2 = true → d 5 = false → x.ownsRow y.heap.size 3 1 u23 0 []) ∧
    (d 5 = true → x.ownsRow y.heap.size 3 1 u26 c.free.length (cells1 c.free)) ∧
    (d 6 = true → d 9 = false → x.ownsRow y.heap.size 50 2 u27 0 []) ∧
    (d 9 = true → x.ownsRow y.heap.size 50 2 u30 c.still.length (cells2 c.still)) ∧
    (d 2 = true → d 5 = false → d 6 = true → d 9 = false → apt u23 u27) ∧
    (d 2 = true → d 5 = false → d 9 = true → apt u23 u30) ∧
    (d 5 = true → d 6 = true → d 9 = false → apt u26 u27) ∧
    (d 5 = true → d 9 = true → apt u26 u30) ∧
    (d 11 = true → ∃ (g : Nat) (cs : Nat → Value), u7 = .pointer (some ⟨g, 0, none⟩) ∧ y.heap.size ≤ g ∧ x.heap[g]? = some (.cells #[cs 0, cs 1, cs 2] 25 (0, 0)) ∧ (d 12 = true → cs 0 = .int .i64 c.first ∧ cs 1 = u26 ∧ cs 2 = u30) ∧ (d 2 = true → d 5 = false → u23.ownBlock ≠ some g) ∧ (d 5 = true → u26.ownBlock ≠ some g) ∧ (d 6 = true → d 9 = false → u27.ownBlock ≠ some g) ∧ (d 9 = true → u30.ownBlock ≠ some g))

/-- While the answer's lists are overwritten: they are rows of its own, all that was there lies there. -/
def LoopAt (x : World) (p8 : Nat) (v0 fv sv : Value) (nF nS : Nat) (wr : World) : Prop :=
  Below x.heap.size x wr ∧ (∃ lF : List Int, lF.length = nF ∧ wr.ownsRow x.heap.size 3 1 fv nF (cells1 lF)) ∧ (∃ lS : List (Int × Int), lS.length = nS ∧ wr.ownsRow x.heap.size 50 2 sv nS (cells2 lS)) ∧
    apt fv sv ∧ x.heap.size ≤ p8 ∧ wr.heap[p8]? = some (.cells #[v0, fv, sv] 25 (0, 0)) ∧ fv.ownBlock ≠ some p8 ∧ sv.ownBlock ≠ some p8
theorem LoopAt.below {x : World} {p8 : Nat} {v0 fv sv : Value} {nF nS : Nat} {wr w' : World} (h : LoopAt x p8 v0 fv sv nF nS wr) (hb : Below wr.heap.size wr w') : LoopAt x p8 v0 fv sv nF nS w' := by
  obtain ⟨h1, ⟨lF, h2, h3⟩, ⟨lS, h4, h5⟩, h6, h9, h7, h8⟩ := h
  exact ⟨below_tail hb h1, ⟨lF, h2, own_below h3 hb⟩, ⟨lS, h4, own_below h5 hb⟩, h6, h9, blk_below h7 hb, h8⟩
theorem LoopAt.setF {x : World} {p8 : Nat} {v0 sv : Value} {g cp nF nS k : Nat} {wr : World} {z : Int} (h : LoopAt x p8 v0 (.slice (some ⟨g, 0, none⟩) nF cp) sv nF nS wr) :
    LoopAt x p8 v0 (.slice (some ⟨g, 0, none⟩) nF cp) sv nF nS (wr.setCell ⟨g, k, none⟩ (.int .i64 z)) := by
  obtain ⟨h1, ⟨lF, h2, h3⟩, ⟨lS, h4, h5⟩, h6, h9, h7, h8, h10⟩ := h
  have hg := grown_set wr ⟨g, k, none⟩ (.int .i64 z)
  refine ⟨below_set h1 (h3.lt g rfl).1 _, ⟨lF.set k z, by simpa using h2, ?_⟩, ⟨lS, h4, h5.kept hg (.inr (fun e => h6 g rfl e))⟩, h6, h9, ?_, h8, h10⟩
  · have e : cells1 (lF.set k z) = (cells1 lF).set k (.int .i64 z) := by simp [cells1, List.map_set]
    rw [e]; exact (h3.stored k _).1
  · exact (hg.block p8 (Array.getElem?_eq_some_iff.1 h7).1 (fun e => h8 e.symm)).trans h7
theorem LoopAt.setS {x : World} {p8 : Nat} {v0 fv : Value} {g cp nF nS k : Nat} {wr : World} {z : Int} (h : LoopAt x p8 v0 fv (.slice (some ⟨g, 0, none⟩) nS cp) nF nS wr) :
    LoopAt x p8 v0 fv (.slice (some ⟨g, 0, none⟩) nS cp) nF nS (wr.setCell ⟨g, k * 2, none⟩ (.int .i64 z)) := by
  obtain ⟨h1, ⟨lF, h2, h3⟩, ⟨lS, h4, h5⟩, h6, h9, h7, h8, h10⟩ := h
  have hg := grown_set wr ⟨g, k * 2, none⟩ (.int .i64 z)
  refine ⟨below_set h1 (h5.lt g rfl).1 _, ⟨lF, h2, h3.kept hg (apt_or h6)⟩, ⟨lS.set k (z, (gi lS (0, 0) k).2), by simpa using h4, ?_⟩, h6, h9, ?_, h8, h10⟩
  · rw [← cells2_set]; exact (h5.stored (k * 2) _).1
  · exact (hg.block p8 (Array.getElem?_eq_some_iff.1 h7).1 (fun e => h10 e.symm)).trans h7
theorem own_len {w : World} {base e size n : Nat} {v : Value} {xs : List Value} (h : w.ownsRow base e size v n xs) : n ≤ 9223372036854775807 := by
  rcases h.2 with ⟨_, rfl⟩ | ⟨g, cap, cur, _, _, _, h1, h2, _⟩
  · omega
  · unfold maxLen at h2; omega
theorem loop_at {x w2 : World} {v0 fv sv : Value} {lF : List Int} {lS : List (Int × Int)} (hb : Below x.heap.size x w2) (hf : w2.ownsRow x.heap.size 3 1 fv lF.length (cells1 lF)) (hs : w2.ownsRow x.heap.size 50 2 sv lS.length (cells2 lS)) (hap : fv.ownBlock = none ∨ fv.ownBlock ≠ sv.ownBlock) :
    LoopAt x w2.heap.size v0 fv sv lF.length lS.length (w2.alloc (.cells #[v0, fv, sv] 25)) := by
  refine ⟨below_new hb _, ⟨lF, rfl, hf.alloc _⟩, ⟨lS, rfl, hs.alloc _⟩, ?_, hb.size, World.alloc_heap_new _ _, ne_new hf (Nat.le_refl _), ne_new hs (Nat.le_refl _)⟩
  intro k hk e
  rcases hap with h | h
  · rw [h] at hk; cases hk
  · exact h (hk.trans e.symm)

set_option maxHeartbeats 4000000 in
set_option maxRecDepth 100000 in
theorem termWith_calls (v : Value) (c : Cal) (s : Int × Int) (xa xb : Int) (w : World) (h : CalAt w v c) :
    Gives Try.prog 15 #[v, .agg #[.int .i64 s.1, .int .i64 s.2], .agg #[.int .i64 xa, .int .i64 xb]] w (.bool true) := by
  obtain ⟨fa, fc, sa, sc, rfl, hf, hs, hfc, hsc, hfl, hsl⟩ := h.cells
  have HCal := Lib.hid h
  clear h hf hs
  unfold Gives
  cases hL : (decide (100 < c.free.length) || decide (100 < c.still.length))
  · go_enter Try.func15, Try.ntmps15
    go_wp2_with (first | (go_at_call 17; (with_reducible refine (long_calls _ c _ (HCal.out.below (by (repeat' (first | exact Below.refl _ _ | assumption | refine below_new ?_ _ | refine below_draw ?_ | refine below_tail (by assumption) ?_ | refine below_set ?_ (by first | omega | (simp <;> omega)) _))))).use ?_); intro w1 hb1 hz1 hc1 hf1; (try simp at hz1); have hy1 : w.heap.size + 2 < w1.heap.size := (by omega); have hx10 := fun o => hc1 (w.heap.size) o (by first | omega | (simp <;> omega)); have hx11 := fun o => hc1 (w.heap.size + 1) o (by first | omega | (simp <;> omega)); have hx12 := fun o => hc1 (w.heap.size + 2) o (by first | omega | (simp <;> omega)); clear hc1 hf1; rw [hL]))
    rw [Bool.or_eq_false_iff] at hL
    obtain ⟨hLf, hLs⟩ := hL
    replace hLf := of_decide_eq_false hLf
    replace hLs := of_decide_eq_false hLs
    have hw1 : Below w.heap.size w w1 := by (repeat' (first | exact Below.refl _ _ | assumption | refine below_new ?_ _ | refine below_draw ?_ | refine below_tail (by assumption) ?_ | refine below_set ?_ (by first | omega | (simp <;> omega)) _))
    have c0 : w1.cell? ⟨w.heap.size, 0, none⟩ = some (.int .i64 c.first) := by simp [hx10, go_sem]
    have c1 : w1.cell? ⟨w.heap.size, 1, none⟩ = some (.slice fa c.free.length fc) := by simp [hx10, go_sem]
    have c2 : w1.cell? ⟨w.heap.size, 2, none⟩ = some (.slice sa c.still.length sc) := by simp [hx10, go_sem]
    have d0 : w1.cell? ⟨w.heap.size + 1, 0, none⟩ = some (.int .i64 s.1) := by simp [hx11, go_sem]
    have d1 : w1.cell? ⟨w.heap.size + 1, 1, none⟩ = some (.int .i64 s.2) := by simp [hx11, go_sem]
    have d2 : w1.cell? ⟨w.heap.size + 2, 0, none⟩ = some (.int .i64 xa) := by simp [hx12, go_sem]
    have d3 : w1.cell? ⟨w.heap.size + 2, 1, none⟩ = some (.int .i64 xb) := by simp [hx12, go_sem]
    have HF2 : Hid (IntsAt w1 (.slice fa c.free.length fc) c.free) := by
      obtain ⟨fv, sv, e, hI, hP⟩ := HCal.out.below hw1
      simp only [Value.agg.injEq, Array.mk.injEq, List.cons.injEq, and_true, true_and] at e
      rw [e.1]; exact hI
    have HP2 : Hid (PairsAt w1 (.slice sa c.still.length sc) c.still) := by
      obtain ⟨fv, sv, e, hI, hP⟩ := HCal.out.below hw1
      simp only [Value.agg.injEq, Array.mk.injEq, List.cons.injEq, and_true, true_and] at e
      rw [e.2]; exact hP
    refine wp_region_inv mixed (by kernel_rfl) (WithLI c fa sa fc sc w.heap.size w1 (.agg #[.int .i64 c.first, .slice fa c.free.length fc, .slice sa c.still.length sc]) (.agg #[.int .i64 s.1, .int .i64 s.2]) (.agg #[.int .i64 xa, .int .i64 xb]) (.bool false) undef undef undef undef undef undef undef undef undef undef (.agg #[.int .i64 c.first, .slice fa c.free.length fc, .slice sa c.still.length sc]) (.bool false) undef undef undef undef undef undef undef undef undef undef undef undef undef undef undef undef undef undef undef undef undef undef undef undef undef undef undef undef undef undef undef undef undef undef undef undef undef undef undef undef undef undef undef undef undef undef undef undef undef undef undef undef undef undef undef undef undef undef undef undef undef undef undef undef undef undef undef undef undef undef undef undef undef undef undef undef undef undef undef undef undef undef undef) ?h0 ?hstep ?hend
    case h0 =>
      unfold WithLI
      refine ⟨_, _, _, _, _, _, _, _, _, _, _, _, rfl, below_draw (Below.refl _ _), ?_⟩
      simp only [Bool.false_eq_true, false_implies, and_self]
    case hstep =>
      intro d a x hI i hi hdi hed
      unfold WithLI at hI
      obtain ⟨u7, u21, u22, u23, u24, u25, u26, u27, u28, u29, u30, u31, rfl, fb, f0, f1, f3, f4, fc5, f7, f8, fc9, f10, fc10, fc12, fra, frf, frb, frs, fpab, fpas, fpfb, fpfs, fx⟩ := hI
      have hi' : i < 13 := hi
      clear hi
      rcases (show i = 0 ∨ i = 1 ∨ i = 2 ∨ i = 3 ∨ i = 4 ∨ i = 5 ∨ i = 6 ∨ i = 7 ∨ i = 8 ∨ i = 9 ∨ i = 10 ∨ i = 11 ∨ i = 12 by omega) with rfl | rfl | rfl | rfl | rfl | rfl | rfl | rfl | rfl | rfl | rfl | rfl | rfl
      · skip
        have he := hed _ rfl
        simp only [Region.binds] at he
        try simp at he
        clear hed
        refine wpOp_step rfl (fun K hK => ?_)
        go_simp
        (try (refine hK _ _ ?_; clear hK K))
        unfold WithLI
        refine ⟨_, _, _, _, _, _, _, _, _, _, _, _, rfl, ?_⟩
        simp only [Nat.reduceBEq, Bool.false_or, Bool.true_or, beq_self_eq_true, forall_const]
        exact ⟨fb,
          (by first | exact (by trivial) | (intros; trivial)),
          (by first | exact f1 | (intros; trivial)),
          (by first | exact f3 | (intros; trivial)),
          (by first | exact f4 | (intros; trivial)),
          fc5,
          (by first | exact f7 | (intros; trivial)),
          (by first | exact f8 | (intros; trivial)),
          fc9,
          (by first | exact f10 | (intros; trivial)),
          fc10,
          fc12,
          fra,
          frf,
          frb,
          frs,
          fpab,
          fpas,
          fpfb,
          fpfs,
          fx⟩
      · skip
        have he := hed _ rfl
        simp only [Region.binds] at he
        try simp at he
        clear hed
        have e0 : d 0 = true := by first | exact he | exact he.1 | exact he.2.1 | exact he.2.2.1 | exact he.2.2.2.1 | exact he.2.2.2.2.1 | exact he.2 | exact he.2.2 | exact he.2.2.2 | exact he.2.2.2.2
        have g0 := f0 e0
        subst g0
        refine wpOp_step rfl (fun K hK => ?_)
        have qc0 := (fb.cell (p := ⟨w.heap.size, 0, none⟩) (by dsimp only; omega)).trans c0
        go_simp
        (try (refine hK _ _ ?_; clear hK K))
        unfold WithLI
        refine ⟨_, _, _, _, _, _, _, _, _, _, _, _, rfl, ?_⟩
        simp only [Nat.reduceBEq, Bool.false_or, Bool.true_or, beq_self_eq_true, forall_const]
        exact ⟨fb,
          (by first | exact (by intros; trivial) | (intros; trivial)),
          (by first | exact (by trivial) | (intros; trivial)),
          (by first | exact f3 | (intros; trivial)),
          (by first | exact f4 | (intros; trivial)),
          fc5,
          (by first | exact f7 | (intros; trivial)),
          (by first | exact f8 | (intros; trivial)),
          fc9,
          (by first | exact f10 | (intros; trivial)),
          fc10,
          fc12,
          fra,
          frf,
          frb,
          frs,
          fpab,
          fpas,
          fpfb,
          fpfs,
          fx⟩
      · skip
        have he := hed _ rfl
        simp only [Region.binds] at he
        try simp at he
        clear hed
        have hb3 : Below x.heap.size x (x.alloc (.cells #[] 3)) := (Below.refl _ _).alloc (Nat.le_refl _) _
        have hof : Hid ((x.alloc (.cells #[] 3)).ownsRow x.heap.size 3 1 (.slice (some ⟨x.heap.size, 0, none⟩) 0 0) 0 []) := World.ownsRow_made (base := x.heap.size) (e := 3) (size := 1) x #[] 0 (Nat.le_refl _) (by decide) (by simp)
        refine wpOp_step rfl (fun K hK => ?_)
        go_simp
        replace hof := hof.out
        (try (refine hK _ _ ?_; clear hK K))
        unfold WithLI
        refine ⟨_, _, _, _, _, _, _, _, _, _, _, _, rfl, ?_⟩
        simp only [Nat.reduceBEq, Bool.false_or, Bool.true_or, beq_self_eq_true, forall_const]
        exact ⟨below_tail hb3 fb,
          (by first | exact f0 | (intros; trivial)),
          (by first | exact f1 | (intros; trivial)),
          (by first | exact f3 | (intros; trivial)),
          (by first | exact f4 | (intros; trivial)),
          fun h5 => ⟨trivial, (fc5 h5).2⟩,
          (by first | exact f7 | (intros; trivial)),
          (by first | exact f8 | (intros; trivial)),
          fc9,
          (by first | exact f10 | (intros; trivial)),
          fc10,
          fc12,
          fun h5n => own_base hof fb.size,
          fun h5 => own_below (frf h5) hb3,
          fun h6 h9n => own_below (frb h6 h9n) hb3,
          fun h9 => own_below (frs h9) hb3,
          fun h5n h6 h9n => apt_symm (apt_new (frb h6 h9n) hof (Nat.le_refl _)),
          fun h5n h9 => apt_symm (apt_new (frs h9) hof (Nat.le_refl _)),
          fpfb,
          fpfs,
          fun hal => let ⟨g, cs, e, hg, hx, h13, hna, hnf, hnb, hns⟩ := fx hal; ⟨g, cs, e, hg, blk_below hx hb3, h13, fun h5n => fun hk => absurd ((hof.lt g hk).1) (Nat.not_le.2 (Array.getElem?_eq_some_iff.1 hx).1), hnf, hnb, hns⟩⟩
      · skip
        have he := hed _ rfl
        simp only [Region.binds] at he
        try simp at he
        clear hed
        refine wpOp_step rfl (fun K hK => ?_)
        go_simp
        (try (refine hK _ _ ?_; clear hK K))
        unfold WithLI
        refine ⟨_, _, _, _, _, _, _, _, _, _, _, _, rfl, ?_⟩
        simp only [Nat.reduceBEq, Bool.false_or, Bool.true_or, beq_self_eq_true, forall_const]
        exact ⟨fb,
          (by first | exact f0 | (intros; trivial)),
          (by first | exact f1 | (intros; trivial)),
          (by first | exact (by trivial) | (intros; trivial)),
          (by first | exact f4 | (intros; trivial)),
          fc5,
          (by first | exact f7 | (intros; trivial)),
          (by first | exact f8 | (intros; trivial)),
          fc9,
          (by first | exact f10 | (intros; trivial)),
          fc10,
          fc12,
          fra,
          frf,
          frb,
          frs,
          fpab,
          fpas,
          fpfb,
          fpfs,
          fx⟩
      · skip
        have he := hed _ rfl
        simp only [Region.binds] at he
        try simp at he
        clear hed
        have e3 : d 3 = true := by first | exact he | exact he.1 | exact he.2.1 | exact he.2.2.1 | exact he.2.2.2.1 | exact he.2.2.2.2.1 | exact he.2 | exact he.2.2 | exact he.2.2.2 | exact he.2.2.2.2
        have g3 := f3 e3
        subst g3
        refine wpOp_step rfl (fun K hK => ?_)
        have qc1 := (fb.cell (p := ⟨w.heap.size, 1, none⟩) (by dsimp only; omega)).trans c1
        go_simp
        (try (refine hK _ _ ?_; clear hK K))
        unfold WithLI
        refine ⟨_, _, _, _, _, _, _, _, _, _, _, _, rfl, ?_⟩
        simp only [Nat.reduceBEq, Bool.false_or, Bool.true_or, beq_self_eq_true, forall_const]
        exact ⟨fb,
          (by first | exact f0 | (intros; trivial)),
          (by first | exact f1 | (intros; trivial)),
          (by first | exact (by intros; trivial) | (intros; trivial)),
          (by first | exact (by trivial) | (intros; trivial)),
          fun h5 => ⟨(fc5 h5).1, trivial⟩,
          (by first | exact f7 | (intros; trivial)),
          (by first | exact f8 | (intros; trivial)),
          fc9,
          (by first | exact f10 | (intros; trivial)),
          fc10,
          fc12,
          fra,
          frf,
          frb,
          frs,
          fpab,
          fpas,
          fpfb,
          fpfs,
          fx⟩
      · skip
        have he := hed _ rfl
        simp only [Region.binds] at he
        try simp at he
        clear hed
        have e4 : d 4 = true := by first | exact he | exact he.1 | exact he.2.1 | exact he.2.2.1 | exact he.2.2.2.1 | exact he.2.2.2.2.1 | exact he.2 | exact he.2.2 | exact he.2.2.2 | exact he.2.2.2.2
        have e2 : d 2 = true := by first | exact he | exact he.1 | exact he.2.1 | exact he.2.2.1 | exact he.2.2.2.1 | exact he.2.2.2.2.1 | exact he.2 | exact he.2.2 | exact he.2.2.2 | exact he.2.2.2.2
        have g4 := f4 e4
        subst g4
        have hos := (fra e2 hdi)
        obtain ⟨i0, hi0, hz0, hi1, hi2⟩ := info_parts infoInt
        refine wpOp_step rfl (fun K hK => ?_)
        refine step_append_any (by rfl) _ _ _ (by rfl) w1.heap.size 3 i0 (.int .i64 0) 1 8 Try.underlying22 hi0 hz0 hi1 hi2 (by rfl) (by decide) u23 0 [] (by rfl) hos _ c.free.length (cells1 c.free) (by rfl) (ints_src (HF2.out.below fb)) (by unfold maxLen; omega) (by omega) fb.size ?_
        intro v5 w5 hown5 hgrow hat
        simp only [Nat.zero_add, List.nil_append] at hown5
        (try (refine hK _ _ ?_; clear hK K))
        unfold WithLI
        refine ⟨_, _, _, _, _, _, _, _, _, _, _, _, rfl, ?_⟩
        simp only [Nat.reduceBEq, Bool.false_or, Bool.true_or, beq_self_eq_true, Bool.true_eq_false, false_implies, forall_const]
        exact ⟨below_grow fb hgrow (fun k hk => (hos.lt k hk).1),
          (by first | exact f0 | (intros; trivial)),
          (by first | exact f1 | (intros; trivial)),
          (by first | exact f3 | (intros; trivial)),
          (by first | exact (by intros; trivial) | (intros; trivial)),
          ⟨e2, e4⟩,
          (by first | exact f7 | (intros; trivial)),
          (by first | exact f8 | (intros; trivial)),
          fc9,
          (by first | exact fun h10 => not_both ((fc10 h10).1) hdi | (intros; trivial)),
          fun h10 => ⟨trivial, (fc10 h10).2⟩,
          fc12,
          (by intros; trivial),
          hown5,
          fun h6 h9n => (frb h6 h9n).kept hgrow (apt_or (apt_symm (fpab e2 hdi h6 h9n))),
          fun h9 => (frs h9).kept hgrow (apt_or (apt_symm (fpas e2 hdi h9))),
          (by intros; trivial),
          (by intros; trivial),
          fun h6 h9n => apt_symm (apt_app (frb h6 h9n) (apt_symm (fpab e2 hdi h6 h9n)) hat),
          fun h9 => apt_symm (apt_app (frs h9) (apt_symm (fpas e2 hdi h9)) hat),
          fun hal => let ⟨g, cs, e, hg, hx, h13, hna, hnf, hnb, hns⟩ := fx hal; ⟨g, cs, e, hg, (hgrow.block g (Array.getElem?_eq_some_iff.1 hx).1 (fun e => hna e2 hdi e.symm)).trans hx, fun h12 => not_both ((fc10 (fc12 h12).1).1) hdi, (by intros; trivial), ne_app (Array.getElem?_eq_some_iff.1 hx).1 (hna e2 hdi) hat, hnb, hns⟩⟩
      · skip
        have he := hed _ rfl
        simp only [Region.binds] at he
        try simp at he
        clear hed
        have hb3 : Below x.heap.size x (x.alloc (.cells #[] 50)) := (Below.refl _ _).alloc (Nat.le_refl _) _
        have hof : Hid ((x.alloc (.cells #[] 50)).ownsRow x.heap.size 50 2 (.slice (some ⟨x.heap.size, 0, none⟩) 0 0) 0 []) := World.ownsRow_made (base := x.heap.size) (e := 50) (size := 2) x #[] 0 (Nat.le_refl _) (by decide) (by simp)
        refine wpOp_step rfl (fun K hK => ?_)
        go_simp
        replace hof := hof.out
        (try (refine hK _ _ ?_; clear hK K))
        unfold WithLI
        refine ⟨_, _, _, _, _, _, _, _, _, _, _, _, rfl, ?_⟩
        simp only [Nat.reduceBEq, Bool.false_or, Bool.true_or, beq_self_eq_true, forall_const]
        exact ⟨below_tail hb3 fb,
          (by first | exact f0 | (intros; trivial)),
          (by first | exact f1 | (intros; trivial)),
          (by first | exact f3 | (intros; trivial)),
          (by first | exact f4 | (intros; trivial)),
          fc5,
          (by first | exact f7 | (intros; trivial)),
          (by first | exact f8 | (intros; trivial)),
          fun h9 => ⟨trivial, (fc9 h9).2⟩,
          (by first | exact f10 | (intros; trivial)),
          fc10,
          fc12,
          fun h2 h5n => own_below (fra h2 h5n) hb3,
          fun h5 => own_below (frf h5) hb3,
          fun h9n => own_base hof fb.size,
          fun h9 => own_below (frs h9) hb3,
          fun h2 h5n h9n => apt_new (fra h2 h5n) hof (Nat.le_refl _),
          fpas,
          fun h5 h9n => apt_new (frf h5) hof (Nat.le_refl _),
          fpfs,
          fun hal => let ⟨g, cs, e, hg, hx, h13, hna, hnf, hnb, hns⟩ := fx hal; ⟨g, cs, e, hg, blk_below hx hb3, h13, hna, hnf, fun h9n => fun hk => absurd ((hof.lt g hk).1) (Nat.not_le.2 (Array.getElem?_eq_some_iff.1 hx).1), hns⟩⟩
      · skip
        have he := hed _ rfl
        simp only [Region.binds] at he
        try simp at he
        clear hed
        refine wpOp_step rfl (fun K hK => ?_)
        go_simp
        (try (refine hK _ _ ?_; clear hK K))
        unfold WithLI
        refine ⟨_, _, _, _, _, _, _, _, _, _, _, _, rfl, ?_⟩
        simp only [Nat.reduceBEq, Bool.false_or, Bool.true_or, beq_self_eq_true, forall_const]
        exact ⟨fb,
          (by first | exact f0 | (intros; trivial)),
          (by first | exact f1 | (intros; trivial)),
          (by first | exact f3 | (intros; trivial)),
          (by first | exact f4 | (intros; trivial)),
          fc5,
          (by first | exact (by trivial) | (intros; trivial)),
          (by first | exact f8 | (intros; trivial)),
          fc9,
          (by first | exact f10 | (intros; trivial)),
          fc10,
          fc12,
          fra,
          frf,
          frb,
          frs,
          fpab,
          fpas,
          fpfb,
          fpfs,
          fx⟩
      · skip
        have he := hed _ rfl
        simp only [Region.binds] at he
        try simp at he
        clear hed
        have e7 : d 7 = true := by first | exact he | exact he.1 | exact he.2.1 | exact he.2.2.1 | exact he.2.2.2.1 | exact he.2.2.2.2.1 | exact he.2 | exact he.2.2 | exact he.2.2.2 | exact he.2.2.2.2
        have g7 := f7 e7
        subst g7
        refine wpOp_step rfl (fun K hK => ?_)
        have qc2 := (fb.cell (p := ⟨w.heap.size, 2, none⟩) (by dsimp only; omega)).trans c2
        go_simp
        (try (refine hK _ _ ?_; clear hK K))
        unfold WithLI
        refine ⟨_, _, _, _, _, _, _, _, _, _, _, _, rfl, ?_⟩
        simp only [Nat.reduceBEq, Bool.false_or, Bool.true_or, beq_self_eq_true, forall_const]
        exact ⟨fb,
          (by first | exact f0 | (intros; trivial)),
          (by first | exact f1 | (intros; trivial)),
          (by first | exact f3 | (intros; trivial)),
          (by first | exact f4 | (intros; trivial)),
          fc5,
          (by first | exact (by intros; trivial) | (intros; trivial)),
          (by first | exact (by trivial) | (intros; trivial)),
          fun h9 => ⟨(fc9 h9).1, trivial⟩,
          (by first | exact f10 | (intros; trivial)),
          fc10,
          fc12,
          fra,
          frf,
          frb,
          frs,
          fpab,
          fpas,
          fpfb,
          fpfs,
          fx⟩
      · skip
        have he := hed _ rfl
        simp only [Region.binds] at he
        try simp at he
        clear hed
        have e8 : d 8 = true := by first | exact he | exact he.1 | exact he.2.1 | exact he.2.2.1 | exact he.2.2.2.1 | exact he.2.2.2.2.1 | exact he.2 | exact he.2.2 | exact he.2.2.2 | exact he.2.2.2.2
        have e6 : d 6 = true := by first | exact he | exact he.1 | exact he.2.1 | exact he.2.2.1 | exact he.2.2.2.1 | exact he.2.2.2.2.1 | exact he.2 | exact he.2.2 | exact he.2.2.2 | exact he.2.2.2.2
        have g8 := f8 e8
        subst g8
        have hos := (frb e6 hdi)
        obtain ⟨i0, hi0, hz0, hi1, hi2⟩ := info_parts infoSpan
        refine wpOp_step rfl (fun K hK => ?_)
        refine step_append_any (by rfl) _ _ _ (by rfl) w1.heap.size 50 i0 (.agg #[.int .i64 0, .int .i64 0]) 2 16 Try.underlying23 hi0 hz0 hi1 hi2 (by rfl) (by decide) u27 0 [] (by rfl) hos _ c.still.length (cells2 c.still) (by rfl) (pairs_src (HP2.out.below fb)) (by unfold maxLen; omega) (by omega) fb.size ?_
        intro v5 w5 hown5 hgrow hat
        simp only [Nat.zero_add, List.nil_append] at hown5
        (try (refine hK _ _ ?_; clear hK K))
        unfold WithLI
        refine ⟨_, _, _, _, _, _, _, _, _, _, _, _, rfl, ?_⟩
        simp only [Nat.reduceBEq, Bool.false_or, Bool.true_or, beq_self_eq_true, Bool.true_eq_false, false_implies, forall_const]
        exact ⟨below_grow fb hgrow (fun k hk => (hos.lt k hk).1),
          (by first | exact f0 | (intros; trivial)),
          (by first | exact f1 | (intros; trivial)),
          (by first | exact f3 | (intros; trivial)),
          (by first | exact f4 | (intros; trivial)),
          fc5,
          (by first | exact f7 | (intros; trivial)),
          (by first | exact (by intros; trivial) | (intros; trivial)),
          ⟨e6, e8⟩,
          (by first | exact fun h10 => not_both ((fc10 h10).2) hdi | (intros; trivial)),
          fun h10 => ⟨(fc10 h10).1, trivial⟩,
          fc12,
          fun h2 h5n => (fra h2 h5n).kept hgrow (apt_or (fpab h2 h5n e6 hdi)),
          fun h5 => (frf h5).kept hgrow (apt_or (fpfb h5 e6 hdi)),
          (by intros; trivial),
          hown5,
          (by intros; trivial),
          fun h2 h5n => apt_app (fra h2 h5n) (fpab h2 h5n e6 hdi) hat,
          (by intros; trivial),
          fun h5 => apt_app (frf h5) (fpfb h5 e6 hdi) hat,
          fun hal => let ⟨g, cs, e, hg, hx, h13, hna, hnf, hnb, hns⟩ := fx hal; ⟨g, cs, e, hg, (hgrow.block g (Array.getElem?_eq_some_iff.1 hx).1 (fun e => hnb e6 hdi e.symm)).trans hx, fun h12 => not_both ((fc10 (fc12 h12).1).2) hdi, hna, hnf, (by intros; trivial), ne_app (Array.getElem?_eq_some_iff.1 hx).1 (hnb e6 hdi) hat⟩⟩
      · skip
        have he := hed _ rfl
        simp only [Region.binds] at he
        try simp at he
        clear hed
        have e1 : d 1 = true := by first | exact he | exact he.1 | exact he.2.1 | exact he.2.2.1 | exact he.2.2.2.1 | exact he.2.2.2.2.1 | exact he.2 | exact he.2.2 | exact he.2.2.2 | exact he.2.2.2.2
        have e5 : d 5 = true := by first | exact he | exact he.1 | exact he.2.1 | exact he.2.2.1 | exact he.2.2.2.1 | exact he.2.2.2.2.1 | exact he.2 | exact he.2.2 | exact he.2.2.2 | exact he.2.2.2.2
        have e9 : d 9 = true := by first | exact he | exact he.1 | exact he.2.1 | exact he.2.2.1 | exact he.2.2.2.1 | exact he.2.2.2.2.1 | exact he.2 | exact he.2.2 | exact he.2.2.2 | exact he.2.2.2.2
        have g1 := f1 e1
        subst g1
        obtain ⟨a26, p26, q26⟩ := own_slice (frf e5)
        subst q26
        obtain ⟨a30, p30, q30⟩ := own_slice (frs e9)
        subst q30
        refine wpOp_step rfl (fun K hK => ?_)
        go_simp
        (try (refine hK _ _ ?_; clear hK K))
        unfold WithLI
        refine ⟨_, _, _, _, _, _, _, _, _, _, _, _, rfl, ?_⟩
        simp only [Nat.reduceBEq, Bool.false_or, Bool.true_or, beq_self_eq_true, forall_const]
        exact ⟨fb,
          (by first | exact f0 | (intros; trivial)),
          (by first | exact (by intros; trivial) | (intros; trivial)),
          (by first | exact f3 | (intros; trivial)),
          (by first | exact f4 | (intros; trivial)),
          fc5,
          (by first | exact f7 | (intros; trivial)),
          (by first | exact f8 | (intros; trivial)),
          fc9,
          (by first | exact (by trivial) | (intros; trivial)),
          ⟨e5, e9⟩,
          fun h12 => ⟨trivial, (fc12 h12).2⟩,
          fra,
          frf,
          frb,
          frs,
          fpab,
          fpas,
          fpfb,
          fpfs,
          fx⟩
      · skip
        have he := hed _ rfl
        simp only [Region.binds] at he
        try simp at he
        clear hed
        have hb3 : Below x.heap.size x (x.alloc (.cells #[.int .i64 0, .slice none 0 0, .slice none 0 0] 25)) := (Below.refl _ _).alloc (Nat.le_refl _) _
        have hblk : Hid ((x.alloc (.cells #[.int .i64 0, .slice none 0 0, .slice none 0 0] 25)).heap[x.heap.size]? = some (.cells #[.int .i64 0, .slice none 0 0, .slice none 0 0] 25 (0, 0))) := World.alloc_heap_new _ _
        refine wpOp_step rfl (fun K hK => ?_)
        go_simp
        replace hblk := hblk.out
        (try (refine hK _ _ ?_; clear hK K))
        unfold WithLI
        refine ⟨_, _, _, _, _, _, _, _, _, _, _, _, rfl, ?_⟩
        simp only [Nat.reduceBEq, Bool.false_or, Bool.true_or, beq_self_eq_true, forall_const]
        exact ⟨below_tail hb3 fb,
          (by first | exact f0 | (intros; trivial)),
          (by first | exact f1 | (intros; trivial)),
          (by first | exact f3 | (intros; trivial)),
          (by first | exact f4 | (intros; trivial)),
          fc5,
          (by first | exact f7 | (intros; trivial)),
          (by first | exact f8 | (intros; trivial)),
          fc9,
          (by first | exact f10 | (intros; trivial)),
          fc10,
          fun h12 => ⟨(fc12 h12).1, trivial⟩,
          fun h2 h5n => own_below (fra h2 h5n) hb3,
          fun h5 => own_below (frf h5) hb3,
          fun h6 h9n => own_below (frb h6 h9n) hb3,
          fun h9 => own_below (frs h9) hb3,
          fpab,
          fpas,
          fpfb,
          fpfs,
          ⟨_, fun i => if i = 0 then .int .i64 0 else if i = 1 then .slice none 0 0 else .slice none 0 0, rfl, fb.size, hblk, fun h12 => not_both ((fc12 h12).2) hdi, fun h2 h5n => ne_new (fra h2 h5n) (Nat.le_refl _), fun h5 => ne_new (frf h5) (Nat.le_refl _), fun h6 h9n => ne_new (frb h6 h9n) (Nat.le_refl _), fun h9 => ne_new (frs h9) (Nat.le_refl _)⟩⟩
      · skip
        have he := hed _ rfl
        simp only [Region.binds] at he
        try simp at he
        clear hed
        have e10 : d 10 = true := by first | exact he | exact he.1 | exact he.2.1 | exact he.2.2.1 | exact he.2.2.2.1 | exact he.2.2.2.2.1 | exact he.2 | exact he.2.2 | exact he.2.2.2 | exact he.2.2.2.2
        have e11 : d 11 = true := by first | exact he | exact he.1 | exact he.2.1 | exact he.2.2.1 | exact he.2.2.2.1 | exact he.2.2.2.2.1 | exact he.2 | exact he.2.2 | exact he.2.2.2 | exact he.2.2.2.2
        have g10 := f10 e10
        subst g10
        obtain ⟨g, cs, e7, hg, hx, h13, hna, hnf, hnb, hns⟩ := fx e11
        subst e7
        obtain ⟨a26, p26, q26⟩ := own_slice (frf (fc10 e10).1)
        subst q26
        obtain ⟨a30, p30, q30⟩ := own_slice (frs (fc10 e10).2)
        subst q30
        have k0 := cell_of_block hx 0
        have l0 := frozen_of_block hx 0
        have k1 := cell_of_block hx 1
        have l1 := frozen_of_block hx 1
        have k2 := cell_of_block hx 2
        have l2 := frozen_of_block hx 2
        simp at k0 k1 k2
        have hgr : Hid (x.grownBy (((x.setCell ⟨g, 0, none⟩ (.int .i64 c.first)).setCell ⟨g, 1, none⟩ (.slice a26 c.free.length p26)).setCell ⟨g, 2, none⟩ (.slice a30 c.still.length p30)) (some g)) := (grown_trans (grown_trans (grown_set x ⟨g, 0, none⟩ (.int .i64 c.first)) (grown_set (x.setCell ⟨g, 0, none⟩ (.int .i64 c.first)) ⟨g, 1, none⟩ (.slice a26 c.free.length p26))) (grown_set ((x.setCell ⟨g, 0, none⟩ (.int .i64 c.first)).setCell ⟨g, 1, none⟩ (.slice a26 c.free.length p26)) ⟨g, 2, none⟩ (.slice a30 c.still.length p30)))
        have hblk : Hid ((((x.setCell ⟨g, 0, none⟩ (.int .i64 c.first)).setCell ⟨g, 1, none⟩ (.slice a26 c.free.length p26)).setCell ⟨g, 2, none⟩ (.slice a30 c.still.length p30)).heap[g]? = some (.cells #[.int .i64 c.first, .slice a26 c.free.length p26, .slice a30 c.still.length p30] 25 (0, 0))) := (block_set (block_set (block_set hx 0 _) 1 _) 2 _)
        have HX := Lib.hid hx
        clear hx
        refine wpOp_step rfl (fun K hK => ?_)
        go_simp
        replace hgr := hgr.out
        replace hblk := hblk.out
        (try (refine hK _ _ ?_; clear hK K))
        unfold WithLI
        refine ⟨_, _, _, _, _, _, _, _, _, _, _, _, rfl, ?_⟩
        simp only [Nat.reduceBEq, Bool.false_or, Bool.true_or, beq_self_eq_true, forall_const]
        exact ⟨below_grow fb hgr (fun k hk => by cases hk; exact hg),
          (by first | exact f0 | (intros; trivial)),
          (by first | exact f1 | (intros; trivial)),
          (by first | exact f3 | (intros; trivial)),
          (by first | exact f4 | (intros; trivial)),
          fc5,
          (by first | exact f7 | (intros; trivial)),
          (by first | exact f8 | (intros; trivial)),
          fc9,
          (by first | exact (by intros; trivial) | (intros; trivial)),
          fc10,
          ⟨e10, e11⟩,
          fun h2 h5n => (fra h2 h5n).kept hgr (apt_some (hna h2 h5n)),
          fun h5 => (frf h5).kept hgr (apt_some (hnf h5)),
          fun h6 h9n => (frb h6 h9n).kept hgr (apt_some (hnb h6 h9n)),
          fun h9 => (frs h9).kept hgr (apt_some (hns h9)),
          fpab,
          fpas,
          fpfb,
          fpfs,
          fun _ => ⟨g, fun i => if i = 0 then (.int .i64 c.first) else if i = 1 then (.slice a26 c.free.length p26) else (.slice a30 c.still.length p30), rfl, hg, hblk, ⟨rfl, rfl, rfl⟩, hna, hnf, hnb, hns⟩⟩
    case hend =>
      intro d a x hI hall
      unfold WithLI at hI
      obtain ⟨u7, u21, u22, u23, u24, u25, u26, u27, u28, u29, u30, u31, rfl, fb, f0, f1, f3, f4, fc5, f7, f8, fc9, f10, fc10, fc12, fra, frf, frb, frs, fpab, fpas, fpfb, fpfs, fx⟩ := hI
      have hl0 := hall 0 (show 0 < 13 by omega)
      have hl1 := hall 1 (show 1 < 13 by omega)
      have hl2 := hall 2 (show 2 < 13 by omega)
      have hl3 := hall 3 (show 3 < 13 by omega)
      have hl4 := hall 4 (show 4 < 13 by omega)
      have hl5 := hall 5 (show 5 < 13 by omega)
      have hl6 := hall 6 (show 6 < 13 by omega)
      have hl7 := hall 7 (show 7 < 13 by omega)
      have hl8 := hall 8 (show 8 < 13 by omega)
      have hl9 := hall 9 (show 9 < 13 by omega)
      have hl10 := hall 10 (show 10 < 13 by omega)
      have hl11 := hall 11 (show 11 < 13 by omega)
      have hl12 := hall 12 (show 12 < 13 by omega)
      have g0 := f0 hl0
      subst g0
      have g1 := f1 hl1
      subst g1
      have g3 := f3 hl3
      subst g3
      have g4 := f4 hl4
      subst g4
      have g7 := f7 hl7
      subst g7
      have g8 := f8 hl8
      subst g8
      have g10 := f10 hl10
      subst g10
      have orf := frf hl5
      have ors := frs hl9
      have opfs := fpfs hl5 hl9
      obtain ⟨g, cs, e7, hg, hx, h13, hna, hnf, hnb, hns⟩ := fx hl11
      obtain ⟨ex0, ex1, ex2⟩ := h13 hl12
      rw [ex0, ex1, ex2] at hx
      subst e7
      replace hnf := hnf hl5
      replace hns := hns hl9
      clear fx h13 ex0 ex1 ex2
      clear hna
      clear hnb
      clear f0 f1 f3 f4 fc5 f7 f8 fc9 f10 fc10 fc12 fra frf frb frs fpab fpas fpfb fpfs
      clear hall hl0 hl1 hl2 hl3 hl4 hl5 hl6 hl7 hl8 hl9 hl10 hl11 hl12
      obtain ⟨a26, p26, q26⟩ := own_slice orf
      obtain ⟨a30, p30, q30⟩ := own_slice ors
      subst q26 q30
      have hwx : Below w.heap.size w x := below_tail fb hw1
      have hsx := fb.size
      have hyx : w.heap.size + 2 < x.heap.size := by omega
      have hgx : g < x.heap.size := (Array.getElem?_eq_some_iff.1 hx).1
      have e0 : x.cell? ⟨w.heap.size, 0, none⟩ = some (.int .i64 c.first) := (fb.cell (p := ⟨w.heap.size, 0, none⟩) (by dsimp only; omega)).trans c0
      have e1 : x.cell? ⟨w.heap.size, 1, none⟩ = some (.slice fa c.free.length fc) := (fb.cell (p := ⟨w.heap.size, 1, none⟩) (by dsimp only; omega)).trans c1
      have e2 : x.cell? ⟨w.heap.size, 2, none⟩ = some (.slice sa c.still.length sc) := (fb.cell (p := ⟨w.heap.size, 2, none⟩) (by dsimp only; omega)).trans c2
      have e3 : x.cell? ⟨w.heap.size + 1, 0, none⟩ = some (.int .i64 s.1) := (fb.cell (p := ⟨w.heap.size + 1, 0, none⟩) (by dsimp only; omega)).trans d0
      have e4 : x.cell? ⟨w.heap.size + 1, 1, none⟩ = some (.int .i64 s.2) := (fb.cell (p := ⟨w.heap.size + 1, 1, none⟩) (by dsimp only; omega)).trans d1
      have e5 : x.cell? ⟨w.heap.size + 2, 0, none⟩ = some (.int .i64 xa) := (fb.cell (p := ⟨w.heap.size + 2, 0, none⟩) (by dsimp only; omega)).trans d2
      have e6 : x.cell? ⟨w.heap.size + 2, 1, none⟩ = some (.int .i64 xb) := (fb.cell (p := ⟨w.heap.size + 2, 1, none⟩) (by dsimp only; omega)).trans d3
      have k0 := cell_of_block hx 0
      have k1 := cell_of_block hx 1
      have k2 := cell_of_block hx 2
      simp at k0 k1 k2
      have HCalOwn : Hid (CalAt x (.agg #[.int .i64 c.first, .slice a26 c.free.length p26, .slice a30 c.still.length p30]) c) := ⟨_, _, rfl, own_ints orf, own_pairs ors⟩
      clear hx orf ors opfs c0 c1 c2 d0 d1 d2 d3 cs HF2 HP2
      have s1 : (withE c s != withE c s) = false := by simp
      have s2 : (askedF c [xa] [xb] != askedF c [xa] [xb]) = false := by simp
      cases hE : (withE c s == 0)
      · go_wp2_with (first | (go_at_call 30; refine (With_calls _ c s _ HCalOwn.out).mono ?_; rintro e w2 ⟨fv, sv, rfl, hof, hos, hap, hb2⟩; obtain ⟨a8f, p8f, q8f⟩ := own_slice hof; obtain ⟨a8s, p8s, q8s⟩ := own_slice hos; subst q8f q8s; have hz2 := hb2.size; have hy2a : w.heap.size < w2.heap.size := (by omega); have hy2b : w.heap.size + 1 < w2.heap.size := (by omega); have hy2c : w.heap.size + 2 < w2.heap.size := (by omega); have hy2d : g < w2.heap.size := (by omega); have hx20 : ∀ o, w2.cell? ⟨w.heap.size, o, none⟩ = (x).cell? ⟨w.heap.size, o, none⟩ := fun o => hb2.cell (p := ⟨w.heap.size, o, none⟩) (by first | (dsimp only; omega) | (simp <;> omega)); have hx21 : ∀ o, w2.cell? ⟨w.heap.size + 1, o, none⟩ = (x).cell? ⟨w.heap.size + 1, o, none⟩ := fun o => hb2.cell (p := ⟨w.heap.size + 1, o, none⟩) (by first | (dsimp only; omega) | (simp <;> omega)); have hx22 : ∀ o, w2.cell? ⟨w.heap.size + 2, o, none⟩ = (x).cell? ⟨w.heap.size + 2, o, none⟩ := fun o => hb2.cell (p := ⟨w.heap.size + 2, o, none⟩) (by first | (dsimp only; omega) | (simp <;> omega)); have hx23 : ∀ o, w2.cell? ⟨g, o, none⟩ = (x).cell? ⟨g, o, none⟩ := fun o => hb2.cell (p := ⟨g, o, none⟩) (by first | (dsimp only; omega) | (simp <;> omega)); have HCalA : Hid (CalAt w2 (.agg #[.int .i64 (withR c s).first, .slice a8f (withR c s).free.length p8f, .slice a8s (withR c s).still.length p8s]) (withR c s)) := ⟨_, _, rfl, own_ints hof, own_pairs hos⟩; have HLoop : Hid (LoopAt x w2.heap.size (.int .i64 (withR c s).first) (.slice a8f (withR c s).free.length p8f) (.slice a8s (withR c s).still.length p8s) (withR c s).free.length (withR c s).still.length (w2.alloc (.cells #[.int .i64 (withR c s).first, .slice a8f (withR c s).free.length p8f, .slice a8s (withR c s).still.length p8s] 25))) := loop_at hb2 hof hos hap; clear hof hos hap) | (go_at_call 50; refine (refWith_calls _ c s _ (HCal.out.below (by (repeat' (first | exact Below.refl _ _ | assumption | refine below_new ?_ _ | refine below_draw ?_ | refine below_tail (by assumption) ?_ | refine below_set ?_ (by first | omega | (simp <;> omega)) _))))).mono ?_; rintro e w3 ⟨fv, sv, rfl, hof, hos, _, hb3⟩; obtain ⟨a9f, p9f, q9f⟩ := own_slice hof; obtain ⟨a9s, p9s, q9s⟩ := own_slice hos; subst q9f q9s; have hz3 := hb3.size; (try simp at hz3); have hy3a : w.heap.size < w3.heap.size := (by omega); have hy3b : w.heap.size + 1 < w3.heap.size := (by omega); have hy3c : w.heap.size + 2 < w3.heap.size := (by omega); have hy3d : g < w3.heap.size := (by omega); have hy3e : w2.heap.size < w3.heap.size := (by omega); have hx30 : ∀ o, w3.cell? ⟨w.heap.size, o, none⟩ = ((w2.alloc (.cells #[.int .i64 (withR c s).first, .slice a8f (withR c s).free.length p8f, .slice a8s (withR c s).still.length p8s] 25))).cell? ⟨w.heap.size, o, none⟩ := fun o => hb3.cell (p := ⟨w.heap.size, o, none⟩) (by first | (dsimp only; omega) | (simp <;> omega)); have hx31 : ∀ o, w3.cell? ⟨w.heap.size + 1, o, none⟩ = ((w2.alloc (.cells #[.int .i64 (withR c s).first, .slice a8f (withR c s).free.length p8f, .slice a8s (withR c s).still.length p8s] 25))).cell? ⟨w.heap.size + 1, o, none⟩ := fun o => hb3.cell (p := ⟨w.heap.size + 1, o, none⟩) (by first | (dsimp only; omega) | (simp <;> omega)); have hx32 : ∀ o, w3.cell? ⟨w.heap.size + 2, o, none⟩ = ((w2.alloc (.cells #[.int .i64 (withR c s).first, .slice a8f (withR c s).free.length p8f, .slice a8s (withR c s).still.length p8s] 25))).cell? ⟨w.heap.size + 2, o, none⟩ := fun o => hb3.cell (p := ⟨w.heap.size + 2, o, none⟩) (by first | (dsimp only; omega) | (simp <;> omega)); have hx33 : ∀ o, w3.cell? ⟨g, o, none⟩ = ((w2.alloc (.cells #[.int .i64 (withR c s).first, .slice a8f (withR c s).free.length p8f, .slice a8s (withR c s).still.length p8s] 25))).cell? ⟨g, o, none⟩ := fun o => hb3.cell (p := ⟨g, o, none⟩) (by first | (dsimp only; omega) | (simp <;> omega)); have hx34 : ∀ o, w3.cell? ⟨w2.heap.size, o, none⟩ = ((w2.alloc (.cells #[.int .i64 (withR c s).first, .slice a8f (withR c s).free.length p8f, .slice a8s (withR c s).still.length p8s] 25))).cell? ⟨w2.heap.size, o, none⟩ := fun o => hb3.cell (p := ⟨w2.heap.size, o, none⟩) (by first | (dsimp only; omega) | (simp <;> omega)); have HCalB : Hid (CalAt w3 (.agg #[.int .i64 (withR c s).first, .slice a9f (withR c s).free.length p9f, .slice a9s (withR c s).still.length p9s]) (withR c s)) := ⟨_, _, rfl, own_ints hof, own_pairs hos⟩; clear hof hos) | (go_at_call 51; (with_reducible refine (same_calls _ _ (withR c s) _ (HCalA.out.below (by (repeat' (first | exact Below.refl _ _ | assumption | refine below_new ?_ _ | refine below_draw ?_ | refine below_tail (by assumption) ?_ | refine below_set ?_ (by first | omega | (simp <;> omega)) _)))) (HCalB.out.below (by (repeat' (first | exact Below.refl _ _ | assumption | refine below_new ?_ _ | refine below_draw ?_ | refine below_tail (by assumption) ?_ | refine below_set ?_ (by first | omega | (simp <;> omega)) _))))).use ?_); intro w4 hb4 hz4 _ _; (try simp at hz4); have hy4a : w.heap.size < w4.heap.size := (by omega); have hy4b : w.heap.size + 1 < w4.heap.size := (by omega); have hy4c : w.heap.size + 2 < w4.heap.size := (by omega); have hy4d : g < w4.heap.size := (by omega); have hy4e : w2.heap.size < w4.heap.size := (by omega); have hy4f : w3.heap.size < w4.heap.size := (by omega); have hx40 : ∀ o, w4.cell? ⟨w.heap.size, o, none⟩ = ((w3.alloc (.cells #[.int .i64 (withR c s).first, .slice a9f (withR c s).free.length p9f, .slice a9s (withR c s).still.length p9s] 25))).cell? ⟨w.heap.size, o, none⟩ := fun o => hb4.cell (p := ⟨w.heap.size, o, none⟩) (by first | (dsimp only; omega) | (simp <;> omega)); have hx41 : ∀ o, w4.cell? ⟨w.heap.size + 1, o, none⟩ = ((w3.alloc (.cells #[.int .i64 (withR c s).first, .slice a9f (withR c s).free.length p9f, .slice a9s (withR c s).still.length p9s] 25))).cell? ⟨w.heap.size + 1, o, none⟩ := fun o => hb4.cell (p := ⟨w.heap.size + 1, o, none⟩) (by first | (dsimp only; omega) | (simp <;> omega)); have hx42 : ∀ o, w4.cell? ⟨w.heap.size + 2, o, none⟩ = ((w3.alloc (.cells #[.int .i64 (withR c s).first, .slice a9f (withR c s).free.length p9f, .slice a9s (withR c s).still.length p9s] 25))).cell? ⟨w.heap.size + 2, o, none⟩ := fun o => hb4.cell (p := ⟨w.heap.size + 2, o, none⟩) (by first | (dsimp only; omega) | (simp <;> omega)); have hx43 : ∀ o, w4.cell? ⟨g, o, none⟩ = ((w3.alloc (.cells #[.int .i64 (withR c s).first, .slice a9f (withR c s).free.length p9f, .slice a9s (withR c s).still.length p9s] 25))).cell? ⟨g, o, none⟩ := fun o => hb4.cell (p := ⟨g, o, none⟩) (by first | (dsimp only; omega) | (simp <;> omega)); have hx44 : ∀ o, w4.cell? ⟨w2.heap.size, o, none⟩ = ((w3.alloc (.cells #[.int .i64 (withR c s).first, .slice a9f (withR c s).free.length p9f, .slice a9s (withR c s).still.length p9s] 25))).cell? ⟨w2.heap.size, o, none⟩ := fun o => hb4.cell (p := ⟨w2.heap.size, o, none⟩) (by first | (dsimp only; omega) | (simp <;> omega)); have hx45 : ∀ o, w4.cell? ⟨w3.heap.size, o, none⟩ = ((w3.alloc (.cells #[.int .i64 (withR c s).first, .slice a9f (withR c s).free.length p9f, .slice a9s (withR c s).still.length p9s] 25))).cell? ⟨w3.heap.size, o, none⟩ := fun o => hb4.cell (p := ⟨w3.heap.size, o, none⟩) (by first | (dsimp only; omega) | (simp <;> omega))))
        have HL1 : Hid (LoopAt x w2.heap.size (.int .i64 (withR c s).first) (.slice a8f (withR c s).free.length p8f) (.slice a8s (withR c s).still.length p8s) (withR c s).free.length (withR c s).still.length w4) := HLoop.out.below (by (repeat' (first | exact Below.refl _ _ | assumption | refine below_new ?_ _ | refine below_draw ?_ | refine below_tail (by assumption) ?_ | refine below_set ?_ (by first | omega | (simp <;> omega)) _)))
        clear HLoop
        go_loopw [16] (fun i wr => ∃ k : Nat, k ≤ (withR c s).free.length ∧ i = .int .i64 k ∧ Hid (LoopAt x w2.heap.size (.int .i64 (withR c s).first) (.slice a8f (withR c s).free.length p8f) (.slice a8s (withR c s).still.length p8s) (withR c s).free.length (withR c s).still.length wr)) (fun i _ => (withR c s).free.length - (intOf i).toNat)
        case atStart => exact ⟨0, Nat.zero_le _, rfl, HL1.out⟩
        case round =>
          clear HL1
          obtain ⟨k, hk, rfl, HL1⟩ := hrel
          have h8 := HL1.out.2.2.2.2.2.1
          have k8 := cell_of_block h8 1
          simp at k8
          clear h8
          by_cases hlt : k < (withR c s).free.length
          · have hgk : decide ((k : Int) < ((withR c s).free.length : Int)) = true := by simpa using hlt
            obtain ⟨lF, hlF, hoF⟩ := HL1.out.2.1
            obtain ⟨gF, pF, eF, hgF, hgl⟩ := hoF.form (by omega)
            simp only [Value.slice.injEq] at eF
            obtain ⟨eF1, _, eF2⟩ := eF
            subst eF1 eF2
            have kF := hoF.cellAt k (by omega)
            rw [cells1_get (by omega)] at kF
            have zF := hoF.frozenAt k
            have hbF := own_len hoF
            clear hoF hlF
            go_wp2
            go_roundw
            case rel => exact ⟨k + 1, by omega, by go_num, HL1.out.setF⟩
            case measure => simp [intOf]; omega
          · have hgk : decide ((k : Int) < ((withR c s).free.length : Int)) = false := by simpa using hlt
            go_wp2
            clear k8
            go_loopw [17] (fun i wr => ∃ k : Nat, k ≤ (withR c s).still.length ∧ i = .int .i64 k ∧ Hid (LoopAt x w2.heap.size (.int .i64 (withR c s).first) (.slice a8f (withR c s).free.length p8f) (.slice a8s (withR c s).still.length p8s) (withR c s).free.length (withR c s).still.length wr)) (fun i _ => (withR c s).still.length - (intOf i).toNat)
            case atStart => exact ⟨0, Nat.zero_le _, rfl, HL1.out⟩
            case round =>
              clear HL1 hgk hlt hk
              obtain ⟨k, hk, rfl, HL1⟩ := hrel
              have h8 := HL1.out.2.2.2.2.2.1
              have k8 := cell_of_block h8 2
              simp at k8
              clear h8
              by_cases hlt : k < (withR c s).still.length
              · have hgk : decide ((k : Int) < ((withR c s).still.length : Int)) = true := by simpa using hlt
                obtain ⟨lS, hlS, hoS⟩ := HL1.out.2.2.1
                obtain ⟨gS, pS, eS, hgS, hgl⟩ := hoS.form (by omega)
                simp only [Value.slice.injEq] at eS
                obtain ⟨eS1, _, eS2⟩ := eS
                subst eS1 eS2
                have kS := hoS.cellAt (k * 2) (by omega)
                rw [(cells2_get (by omega)).1] at kS
                have zS := hoS.frozenAt (k * 2)
                have hbS := own_len hoS
                clear hoS hlS
                go_wp2
                go_roundw
                case rel => exact ⟨k + 1, by omega, by go_num, HL1.out.setS⟩
                case measure => simp [intOf]; omega
              · have hgk : decide ((k : Int) < ((withR c s).still.length : Int)) = false := by simpa using hlt
                have hBw : Below x.heap.size x wr := HL1.out.1
                have bw0 : ∀ o, wr.cell? ⟨w.heap.size, o, none⟩ = x.cell? ⟨w.heap.size, o, none⟩ := fun o => hBw.cell (p := ⟨w.heap.size, o, none⟩) (by dsimp only; omega)
                have bw3 : ∀ o, wr.cell? ⟨g, o, none⟩ = x.cell? ⟨g, o, none⟩ := fun o => hBw.cell (p := ⟨g, o, none⟩) hgx
                go_wp2_with (first | (go_at_call 51; (with_reducible refine (same_calls _ _ c _ (HCalOwn.out.below (by (repeat' (first | exact Below.refl _ _ | assumption | refine below_new ?_ _ | refine below_draw ?_ | refine below_tail (by assumption) ?_ | refine below_set ?_ (by first | omega | (simp <;> omega)) _)))) (HCal.out.below (by (repeat' (first | exact Below.refl _ _ | assumption | refine below_new ?_ _ | refine below_draw ?_ | refine below_tail (by assumption) ?_ | refine below_set ?_ (by first | omega | (simp <;> omega)) _))))).use ?_); intro w7 hb7 hz7 _ _) | (go_at_call 18; (with_reducible refine (known_calls _).use ?_); intro w8 hb8 hz8 _ _))
                go_ret
                exact ⟨rfl, by (repeat' (first | exact Below.refl _ _ | assumption | refine below_new ?_ _ | refine below_draw ?_ | refine below_tail (by assumption) ?_ | refine below_set ?_ (by first | omega | (simp <;> omega)) _))⟩
      · have hE0 : withE c s = 0 := by simpa using hE
        have HOk := Lib.hid (withE_ok hE0)
        have HR : Hid (withR c s = withC c s) := by unfold Hid withR; rw [if_pos hE0]
        have HAsk : Hid (askedF (withR c s) [xa] [xb] = askedF c [xa] [xb]) := by unfold Hid; rw [HR.out]; exact asked_with HOk.out.1 HOk.out.2 _ _
        clear hE0
        cases hA : (askedF c [xa] [xb] == 0)
        · go_wp2_with (first | (go_at_call 30; refine (With_calls _ c s _ HCalOwn.out).mono ?_; rintro e w2 ⟨fv, sv, rfl, hof, hos, hap, hb2⟩; obtain ⟨a8f, p8f, q8f⟩ := own_slice hof; obtain ⟨a8s, p8s, q8s⟩ := own_slice hos; subst q8f q8s; have hz2 := hb2.size; have hy2a : w.heap.size < w2.heap.size := (by omega); have hy2b : w.heap.size + 1 < w2.heap.size := (by omega); have hy2c : w.heap.size + 2 < w2.heap.size := (by omega); have hy2d : g < w2.heap.size := (by omega); have hx20 : ∀ o, w2.cell? ⟨w.heap.size, o, none⟩ = (x).cell? ⟨w.heap.size, o, none⟩ := fun o => hb2.cell (p := ⟨w.heap.size, o, none⟩) (by first | (dsimp only; omega) | (simp <;> omega)); have hx21 : ∀ o, w2.cell? ⟨w.heap.size + 1, o, none⟩ = (x).cell? ⟨w.heap.size + 1, o, none⟩ := fun o => hb2.cell (p := ⟨w.heap.size + 1, o, none⟩) (by first | (dsimp only; omega) | (simp <;> omega)); have hx22 : ∀ o, w2.cell? ⟨w.heap.size + 2, o, none⟩ = (x).cell? ⟨w.heap.size + 2, o, none⟩ := fun o => hb2.cell (p := ⟨w.heap.size + 2, o, none⟩) (by first | (dsimp only; omega) | (simp <;> omega)); have hx23 : ∀ o, w2.cell? ⟨g, o, none⟩ = (x).cell? ⟨g, o, none⟩ := fun o => hb2.cell (p := ⟨g, o, none⟩) (by first | (dsimp only; omega) | (simp <;> omega)); have HCalA : Hid (CalAt w2 (.agg #[.int .i64 (withR c s).first, .slice a8f (withR c s).free.length p8f, .slice a8s (withR c s).still.length p8s]) (withR c s)) := ⟨_, _, rfl, own_ints hof, own_pairs hos⟩; have HLoop : Hid (LoopAt x w2.heap.size (.int .i64 (withR c s).first) (.slice a8f (withR c s).free.length p8f) (.slice a8s (withR c s).still.length p8s) (withR c s).free.length (withR c s).still.length (w2.alloc (.cells #[.int .i64 (withR c s).first, .slice a8f (withR c s).free.length p8f, .slice a8s (withR c s).still.length p8s] 25))) := loop_at hb2 hof hos hap; clear hof hos hap) | (go_at_call 50; refine (refWith_calls _ c s _ (HCal.out.below (by (repeat' (first | exact Below.refl _ _ | assumption | refine below_new ?_ _ | refine below_draw ?_ | refine below_tail (by assumption) ?_ | refine below_set ?_ (by first | omega | (simp <;> omega)) _))))).mono ?_; rintro e w3 ⟨fv, sv, rfl, hof, hos, _, hb3⟩; obtain ⟨a9f, p9f, q9f⟩ := own_slice hof; obtain ⟨a9s, p9s, q9s⟩ := own_slice hos; subst q9f q9s; have hz3 := hb3.size; (try simp at hz3); have hy3a : w.heap.size < w3.heap.size := (by omega); have hy3b : w.heap.size + 1 < w3.heap.size := (by omega); have hy3c : w.heap.size + 2 < w3.heap.size := (by omega); have hy3d : g < w3.heap.size := (by omega); have hy3e : w2.heap.size < w3.heap.size := (by omega); have hx30 : ∀ o, w3.cell? ⟨w.heap.size, o, none⟩ = ((w2.alloc (.cells #[.int .i64 (withR c s).first, .slice a8f (withR c s).free.length p8f, .slice a8s (withR c s).still.length p8s] 25))).cell? ⟨w.heap.size, o, none⟩ := fun o => hb3.cell (p := ⟨w.heap.size, o, none⟩) (by first | (dsimp only; omega) | (simp <;> omega)); have hx31 : ∀ o, w3.cell? ⟨w.heap.size + 1, o, none⟩ = ((w2.alloc (.cells #[.int .i64 (withR c s).first, .slice a8f (withR c s).free.length p8f, .slice a8s (withR c s).still.length p8s] 25))).cell? ⟨w.heap.size + 1, o, none⟩ := fun o => hb3.cell (p := ⟨w.heap.size + 1, o, none⟩) (by first | (dsimp only; omega) | (simp <;> omega)); have hx32 : ∀ o, w3.cell? ⟨w.heap.size + 2, o, none⟩ = ((w2.alloc (.cells #[.int .i64 (withR c s).first, .slice a8f (withR c s).free.length p8f, .slice a8s (withR c s).still.length p8s] 25))).cell? ⟨w.heap.size + 2, o, none⟩ := fun o => hb3.cell (p := ⟨w.heap.size + 2, o, none⟩) (by first | (dsimp only; omega) | (simp <;> omega)); have hx33 : ∀ o, w3.cell? ⟨g, o, none⟩ = ((w2.alloc (.cells #[.int .i64 (withR c s).first, .slice a8f (withR c s).free.length p8f, .slice a8s (withR c s).still.length p8s] 25))).cell? ⟨g, o, none⟩ := fun o => hb3.cell (p := ⟨g, o, none⟩) (by first | (dsimp only; omega) | (simp <;> omega)); have hx34 : ∀ o, w3.cell? ⟨w2.heap.size, o, none⟩ = ((w2.alloc (.cells #[.int .i64 (withR c s).first, .slice a8f (withR c s).free.length p8f, .slice a8s (withR c s).still.length p8s] 25))).cell? ⟨w2.heap.size, o, none⟩ := fun o => hb3.cell (p := ⟨w2.heap.size, o, none⟩) (by first | (dsimp only; omega) | (simp <;> omega)); have HCalB : Hid (CalAt w3 (.agg #[.int .i64 (withR c s).first, .slice a9f (withR c s).free.length p9f, .slice a9s (withR c s).still.length p9s]) (withR c s)) := ⟨_, _, rfl, own_ints hof, own_pairs hos⟩; clear hof hos) | (go_at_call 51; (with_reducible refine (same_calls _ _ (withR c s) _ (HCalA.out.below (by (repeat' (first | exact Below.refl _ _ | assumption | refine below_new ?_ _ | refine below_draw ?_ | refine below_tail (by assumption) ?_ | refine below_set ?_ (by first | omega | (simp <;> omega)) _)))) (HCalB.out.below (by (repeat' (first | exact Below.refl _ _ | assumption | refine below_new ?_ _ | refine below_draw ?_ | refine below_tail (by assumption) ?_ | refine below_set ?_ (by first | omega | (simp <;> omega)) _))))).use ?_); intro w4 hb4 hz4 _ _; (try simp at hz4); have hy4a : w.heap.size < w4.heap.size := (by omega); have hy4b : w.heap.size + 1 < w4.heap.size := (by omega); have hy4c : w.heap.size + 2 < w4.heap.size := (by omega); have hy4d : g < w4.heap.size := (by omega); have hy4e : w2.heap.size < w4.heap.size := (by omega); have hy4f : w3.heap.size < w4.heap.size := (by omega); have hx40 : ∀ o, w4.cell? ⟨w.heap.size, o, none⟩ = ((w3.alloc (.cells #[.int .i64 (withR c s).first, .slice a9f (withR c s).free.length p9f, .slice a9s (withR c s).still.length p9s] 25))).cell? ⟨w.heap.size, o, none⟩ := fun o => hb4.cell (p := ⟨w.heap.size, o, none⟩) (by first | (dsimp only; omega) | (simp <;> omega)); have hx41 : ∀ o, w4.cell? ⟨w.heap.size + 1, o, none⟩ = ((w3.alloc (.cells #[.int .i64 (withR c s).first, .slice a9f (withR c s).free.length p9f, .slice a9s (withR c s).still.length p9s] 25))).cell? ⟨w.heap.size + 1, o, none⟩ := fun o => hb4.cell (p := ⟨w.heap.size + 1, o, none⟩) (by first | (dsimp only; omega) | (simp <;> omega)); have hx42 : ∀ o, w4.cell? ⟨w.heap.size + 2, o, none⟩ = ((w3.alloc (.cells #[.int .i64 (withR c s).first, .slice a9f (withR c s).free.length p9f, .slice a9s (withR c s).still.length p9s] 25))).cell? ⟨w.heap.size + 2, o, none⟩ := fun o => hb4.cell (p := ⟨w.heap.size + 2, o, none⟩) (by first | (dsimp only; omega) | (simp <;> omega)); have hx43 : ∀ o, w4.cell? ⟨g, o, none⟩ = ((w3.alloc (.cells #[.int .i64 (withR c s).first, .slice a9f (withR c s).free.length p9f, .slice a9s (withR c s).still.length p9s] 25))).cell? ⟨g, o, none⟩ := fun o => hb4.cell (p := ⟨g, o, none⟩) (by first | (dsimp only; omega) | (simp <;> omega)); have hx44 : ∀ o, w4.cell? ⟨w2.heap.size, o, none⟩ = ((w3.alloc (.cells #[.int .i64 (withR c s).first, .slice a9f (withR c s).free.length p9f, .slice a9s (withR c s).still.length p9s] 25))).cell? ⟨w2.heap.size, o, none⟩ := fun o => hb4.cell (p := ⟨w2.heap.size, o, none⟩) (by first | (dsimp only; omega) | (simp <;> omega)); have hx45 : ∀ o, w4.cell? ⟨w3.heap.size, o, none⟩ = ((w3.alloc (.cells #[.int .i64 (withR c s).first, .slice a9f (withR c s).free.length p9f, .slice a9s (withR c s).still.length p9s] 25))).cell? ⟨w3.heap.size, o, none⟩ := fun o => hb4.cell (p := ⟨w3.heap.size, o, none⟩) (by first | (dsimp only; omega) | (simp <;> omega))) | (go_at_call 19; (with_reducible refine (Ends_calls _ c _ _ _ (HCal.out.below (by (repeat' (first | exact Below.refl _ _ | assumption | refine below_new ?_ _ | refine below_draw ?_ | refine below_tail (by assumption) ?_ | refine below_set ?_ (by first | omega | (simp <;> omega)) _))))).use ?_); intro w5 hb5 hz5 _ _; (try simp at hz5); have hy5a : w.heap.size < w5.heap.size := (by omega); have hy5b : w.heap.size + 1 < w5.heap.size := (by omega); have hy5c : w.heap.size + 2 < w5.heap.size := (by omega); have hy5d : g < w5.heap.size := (by omega); have hy5e : w2.heap.size < w5.heap.size := (by omega); have hy5f : w3.heap.size < w5.heap.size := (by omega); have hx50 : ∀ o, w5.cell? ⟨w.heap.size, o, none⟩ = (w4).cell? ⟨w.heap.size, o, none⟩ := fun o => hb5.cell (p := ⟨w.heap.size, o, none⟩) (by first | (dsimp only; omega) | (simp <;> omega)); have hx51 : ∀ o, w5.cell? ⟨w.heap.size + 1, o, none⟩ = (w4).cell? ⟨w.heap.size + 1, o, none⟩ := fun o => hb5.cell (p := ⟨w.heap.size + 1, o, none⟩) (by first | (dsimp only; omega) | (simp <;> omega)); have hx52 : ∀ o, w5.cell? ⟨w.heap.size + 2, o, none⟩ = (w4).cell? ⟨w.heap.size + 2, o, none⟩ := fun o => hb5.cell (p := ⟨w.heap.size + 2, o, none⟩) (by first | (dsimp only; omega) | (simp <;> omega)); have hx53 : ∀ o, w5.cell? ⟨g, o, none⟩ = (w4).cell? ⟨g, o, none⟩ := fun o => hb5.cell (p := ⟨g, o, none⟩) (by first | (dsimp only; omega) | (simp <;> omega)); have hx54 : ∀ o, w5.cell? ⟨w2.heap.size, o, none⟩ = (w4).cell? ⟨w2.heap.size, o, none⟩ := fun o => hb5.cell (p := ⟨w2.heap.size, o, none⟩) (by first | (dsimp only; omega) | (simp <;> omega)); have hx55 : ∀ o, w5.cell? ⟨w3.heap.size, o, none⟩ = (w4).cell? ⟨w3.heap.size, o, none⟩ := fun o => hb5.cell (p := ⟨w3.heap.size, o, none⟩) (by first | (dsimp only; omega) | (simp <;> omega))) | (go_at_call 19; (with_reducible refine (Ends_calls _ (withR c s) _ _ _ (HCalA.out.below (by (repeat' (first | exact Below.refl _ _ | assumption | refine below_new ?_ _ | refine below_draw ?_ | refine below_tail (by assumption) ?_ | refine below_set ?_ (by first | omega | (simp <;> omega)) _))))).use ?_); (try rw [HAsk.out]); intro w6 hb6 hz6 _ _; (try simp at hz6); have hy6a : w.heap.size < w6.heap.size := (by omega); have hy6b : w.heap.size + 1 < w6.heap.size := (by omega); have hy6c : w.heap.size + 2 < w6.heap.size := (by omega); have hy6d : g < w6.heap.size := (by omega); have hy6e : w2.heap.size < w6.heap.size := (by omega); have hy6f : w3.heap.size < w6.heap.size := (by omega); have hx60 : ∀ o, w6.cell? ⟨w.heap.size, o, none⟩ = (w5).cell? ⟨w.heap.size, o, none⟩ := fun o => hb6.cell (p := ⟨w.heap.size, o, none⟩) (by first | (dsimp only; omega) | (simp <;> omega)); have hx61 : ∀ o, w6.cell? ⟨w.heap.size + 1, o, none⟩ = (w5).cell? ⟨w.heap.size + 1, o, none⟩ := fun o => hb6.cell (p := ⟨w.heap.size + 1, o, none⟩) (by first | (dsimp only; omega) | (simp <;> omega)); have hx62 : ∀ o, w6.cell? ⟨w.heap.size + 2, o, none⟩ = (w5).cell? ⟨w.heap.size + 2, o, none⟩ := fun o => hb6.cell (p := ⟨w.heap.size + 2, o, none⟩) (by first | (dsimp only; omega) | (simp <;> omega)); have hx63 : ∀ o, w6.cell? ⟨g, o, none⟩ = (w5).cell? ⟨g, o, none⟩ := fun o => hb6.cell (p := ⟨g, o, none⟩) (by first | (dsimp only; omega) | (simp <;> omega)); have hx64 : ∀ o, w6.cell? ⟨w2.heap.size, o, none⟩ = (w5).cell? ⟨w2.heap.size, o, none⟩ := fun o => hb6.cell (p := ⟨w2.heap.size, o, none⟩) (by first | (dsimp only; omega) | (simp <;> omega)); have hx65 : ∀ o, w6.cell? ⟨w3.heap.size, o, none⟩ = (w5).cell? ⟨w3.heap.size, o, none⟩ := fun o => hb6.cell (p := ⟨w3.heap.size, o, none⟩) (by first | (dsimp only; omega) | (simp <;> omega))))
          have HL1 : Hid (LoopAt x w2.heap.size (.int .i64 (withR c s).first) (.slice a8f (withR c s).free.length p8f) (.slice a8s (withR c s).still.length p8s) (withR c s).free.length (withR c s).still.length w6) := HLoop.out.below (by (repeat' (first | exact Below.refl _ _ | assumption | refine below_new ?_ _ | refine below_draw ?_ | refine below_tail (by assumption) ?_ | refine below_set ?_ (by first | omega | (simp <;> omega)) _)))
          clear HLoop
          go_loopw [16] (fun i wr => ∃ k : Nat, k ≤ (withR c s).free.length ∧ i = .int .i64 k ∧ Hid (LoopAt x w2.heap.size (.int .i64 (withR c s).first) (.slice a8f (withR c s).free.length p8f) (.slice a8s (withR c s).still.length p8s) (withR c s).free.length (withR c s).still.length wr)) (fun i _ => (withR c s).free.length - (intOf i).toNat)
          case atStart => exact ⟨0, Nat.zero_le _, rfl, HL1.out⟩
          case round =>
            clear HL1
            obtain ⟨k, hk, rfl, HL1⟩ := hrel
            have h8 := HL1.out.2.2.2.2.2.1
            have k8 := cell_of_block h8 1
            simp at k8
            clear h8
            by_cases hlt : k < (withR c s).free.length
            · have hgk : decide ((k : Int) < ((withR c s).free.length : Int)) = true := by simpa using hlt
              obtain ⟨lF, hlF, hoF⟩ := HL1.out.2.1
              obtain ⟨gF, pF, eF, hgF, hgl⟩ := hoF.form (by omega)
              simp only [Value.slice.injEq] at eF
              obtain ⟨eF1, _, eF2⟩ := eF
              subst eF1 eF2
              have kF := hoF.cellAt k (by omega)
              rw [cells1_get (by omega)] at kF
              have zF := hoF.frozenAt k
              have hbF := own_len hoF
              clear hoF hlF
              go_wp2
              go_roundw
              case rel => exact ⟨k + 1, by omega, by go_num, HL1.out.setF⟩
              case measure => simp [intOf]; omega
            · have hgk : decide ((k : Int) < ((withR c s).free.length : Int)) = false := by simpa using hlt
              go_wp2
              clear k8
              go_loopw [17] (fun i wr => ∃ k : Nat, k ≤ (withR c s).still.length ∧ i = .int .i64 k ∧ Hid (LoopAt x w2.heap.size (.int .i64 (withR c s).first) (.slice a8f (withR c s).free.length p8f) (.slice a8s (withR c s).still.length p8s) (withR c s).free.length (withR c s).still.length wr)) (fun i _ => (withR c s).still.length - (intOf i).toNat)
              case atStart => exact ⟨0, Nat.zero_le _, rfl, HL1.out⟩
              case round =>
                clear HL1 hgk hlt hk
                obtain ⟨k, hk, rfl, HL1⟩ := hrel
                have h8 := HL1.out.2.2.2.2.2.1
                have k8 := cell_of_block h8 2
                simp at k8
                clear h8
                by_cases hlt : k < (withR c s).still.length
                · have hgk : decide ((k : Int) < ((withR c s).still.length : Int)) = true := by simpa using hlt
                  obtain ⟨lS, hlS, hoS⟩ := HL1.out.2.2.1
                  obtain ⟨gS, pS, eS, hgS, hgl⟩ := hoS.form (by omega)
                  simp only [Value.slice.injEq] at eS
                  obtain ⟨eS1, _, eS2⟩ := eS
                  subst eS1 eS2
                  have kS := hoS.cellAt (k * 2) (by omega)
                  rw [(cells2_get (by omega)).1] at kS
                  have zS := hoS.frozenAt (k * 2)
                  have hbS := own_len hoS
                  clear hoS hlS
                  go_wp2
                  go_roundw
                  case rel => exact ⟨k + 1, by omega, by go_num, HL1.out.setS⟩
                  case measure => simp [intOf]; omega
                · have hgk : decide ((k : Int) < ((withR c s).still.length : Int)) = false := by simpa using hlt
                  have hBw : Below x.heap.size x wr := HL1.out.1
                  have bw0 : ∀ o, wr.cell? ⟨w.heap.size, o, none⟩ = x.cell? ⟨w.heap.size, o, none⟩ := fun o => hBw.cell (p := ⟨w.heap.size, o, none⟩) (by dsimp only; omega)
                  have bw3 : ∀ o, wr.cell? ⟨g, o, none⟩ = x.cell? ⟨g, o, none⟩ := fun o => hBw.cell (p := ⟨g, o, none⟩) hgx
                  go_wp2_with (first | (go_at_call 51; (with_reducible refine (same_calls _ _ c _ (HCalOwn.out.below (by (repeat' (first | exact Below.refl _ _ | assumption | refine below_new ?_ _ | refine below_draw ?_ | refine below_tail (by assumption) ?_ | refine below_set ?_ (by first | omega | (simp <;> omega)) _)))) (HCal.out.below (by (repeat' (first | exact Below.refl _ _ | assumption | refine below_new ?_ _ | refine below_draw ?_ | refine below_tail (by assumption) ?_ | refine below_set ?_ (by first | omega | (simp <;> omega)) _))))).use ?_); intro w7 hb7 hz7 _ _) | (go_at_call 18; (with_reducible refine (known_calls _).use ?_); intro w8 hb8 hz8 _ _))
                  go_ret
                  exact ⟨rfl, by (repeat' (first | exact Below.refl _ _ | assumption | refine below_new ?_ _ | refine below_draw ?_ | refine below_tail (by assumption) ?_ | refine below_set ?_ (by first | omega | (simp <;> omega)) _))⟩
        · have hQ : decide (endsR (withR c s) xa xb < endsR c xa xb) = false := by
            have hA0 : askedF c [xa] [xb] = 0 := by simpa using hA
            obtain ⟨_, h1, h2, h3, h4⟩ := asked_term hA0
            have h5 := ends_with HOk.out.1 HOk.out.2 (d := xa) (n := xb) h1 h3 (by omega)
            have e7 : endsR c xa xb = endsF c xa xb := by unfold endsR; rw [if_pos hA0]
            have e8 : endsR (withR c s) xa xb = endsF (withC c s) xa xb := by unfold endsR; rw [HAsk.out, if_pos hA0, HR.out]
            rw [e7, e8]
            exact decide_eq_false (by omega)
          go_wp2_with (first | (go_at_call 30; refine (With_calls _ c s _ HCalOwn.out).mono ?_; rintro e w2 ⟨fv, sv, rfl, hof, hos, hap, hb2⟩; obtain ⟨a8f, p8f, q8f⟩ := own_slice hof; obtain ⟨a8s, p8s, q8s⟩ := own_slice hos; subst q8f q8s; have hz2 := hb2.size; have hy2a : w.heap.size < w2.heap.size := (by omega); have hy2b : w.heap.size + 1 < w2.heap.size := (by omega); have hy2c : w.heap.size + 2 < w2.heap.size := (by omega); have hy2d : g < w2.heap.size := (by omega); have hx20 : ∀ o, w2.cell? ⟨w.heap.size, o, none⟩ = (x).cell? ⟨w.heap.size, o, none⟩ := fun o => hb2.cell (p := ⟨w.heap.size, o, none⟩) (by first | (dsimp only; omega) | (simp <;> omega)); have hx21 : ∀ o, w2.cell? ⟨w.heap.size + 1, o, none⟩ = (x).cell? ⟨w.heap.size + 1, o, none⟩ := fun o => hb2.cell (p := ⟨w.heap.size + 1, o, none⟩) (by first | (dsimp only; omega) | (simp <;> omega)); have hx22 : ∀ o, w2.cell? ⟨w.heap.size + 2, o, none⟩ = (x).cell? ⟨w.heap.size + 2, o, none⟩ := fun o => hb2.cell (p := ⟨w.heap.size + 2, o, none⟩) (by first | (dsimp only; omega) | (simp <;> omega)); have hx23 : ∀ o, w2.cell? ⟨g, o, none⟩ = (x).cell? ⟨g, o, none⟩ := fun o => hb2.cell (p := ⟨g, o, none⟩) (by first | (dsimp only; omega) | (simp <;> omega)); have HCalA : Hid (CalAt w2 (.agg #[.int .i64 (withR c s).first, .slice a8f (withR c s).free.length p8f, .slice a8s (withR c s).still.length p8s]) (withR c s)) := ⟨_, _, rfl, own_ints hof, own_pairs hos⟩; have HLoop : Hid (LoopAt x w2.heap.size (.int .i64 (withR c s).first) (.slice a8f (withR c s).free.length p8f) (.slice a8s (withR c s).still.length p8s) (withR c s).free.length (withR c s).still.length (w2.alloc (.cells #[.int .i64 (withR c s).first, .slice a8f (withR c s).free.length p8f, .slice a8s (withR c s).still.length p8s] 25))) := loop_at hb2 hof hos hap; clear hof hos hap) | (go_at_call 50; refine (refWith_calls _ c s _ (HCal.out.below (by (repeat' (first | exact Below.refl _ _ | assumption | refine below_new ?_ _ | refine below_draw ?_ | refine below_tail (by assumption) ?_ | refine below_set ?_ (by first | omega | (simp <;> omega)) _))))).mono ?_; rintro e w3 ⟨fv, sv, rfl, hof, hos, _, hb3⟩; obtain ⟨a9f, p9f, q9f⟩ := own_slice hof; obtain ⟨a9s, p9s, q9s⟩ := own_slice hos; subst q9f q9s; have hz3 := hb3.size; (try simp at hz3); have hy3a : w.heap.size < w3.heap.size := (by omega); have hy3b : w.heap.size + 1 < w3.heap.size := (by omega); have hy3c : w.heap.size + 2 < w3.heap.size := (by omega); have hy3d : g < w3.heap.size := (by omega); have hy3e : w2.heap.size < w3.heap.size := (by omega); have hx30 : ∀ o, w3.cell? ⟨w.heap.size, o, none⟩ = ((w2.alloc (.cells #[.int .i64 (withR c s).first, .slice a8f (withR c s).free.length p8f, .slice a8s (withR c s).still.length p8s] 25))).cell? ⟨w.heap.size, o, none⟩ := fun o => hb3.cell (p := ⟨w.heap.size, o, none⟩) (by first | (dsimp only; omega) | (simp <;> omega)); have hx31 : ∀ o, w3.cell? ⟨w.heap.size + 1, o, none⟩ = ((w2.alloc (.cells #[.int .i64 (withR c s).first, .slice a8f (withR c s).free.length p8f, .slice a8s (withR c s).still.length p8s] 25))).cell? ⟨w.heap.size + 1, o, none⟩ := fun o => hb3.cell (p := ⟨w.heap.size + 1, o, none⟩) (by first | (dsimp only; omega) | (simp <;> omega)); have hx32 : ∀ o, w3.cell? ⟨w.heap.size + 2, o, none⟩ = ((w2.alloc (.cells #[.int .i64 (withR c s).first, .slice a8f (withR c s).free.length p8f, .slice a8s (withR c s).still.length p8s] 25))).cell? ⟨w.heap.size + 2, o, none⟩ := fun o => hb3.cell (p := ⟨w.heap.size + 2, o, none⟩) (by first | (dsimp only; omega) | (simp <;> omega)); have hx33 : ∀ o, w3.cell? ⟨g, o, none⟩ = ((w2.alloc (.cells #[.int .i64 (withR c s).first, .slice a8f (withR c s).free.length p8f, .slice a8s (withR c s).still.length p8s] 25))).cell? ⟨g, o, none⟩ := fun o => hb3.cell (p := ⟨g, o, none⟩) (by first | (dsimp only; omega) | (simp <;> omega)); have hx34 : ∀ o, w3.cell? ⟨w2.heap.size, o, none⟩ = ((w2.alloc (.cells #[.int .i64 (withR c s).first, .slice a8f (withR c s).free.length p8f, .slice a8s (withR c s).still.length p8s] 25))).cell? ⟨w2.heap.size, o, none⟩ := fun o => hb3.cell (p := ⟨w2.heap.size, o, none⟩) (by first | (dsimp only; omega) | (simp <;> omega)); have HCalB : Hid (CalAt w3 (.agg #[.int .i64 (withR c s).first, .slice a9f (withR c s).free.length p9f, .slice a9s (withR c s).still.length p9s]) (withR c s)) := ⟨_, _, rfl, own_ints hof, own_pairs hos⟩; clear hof hos) | (go_at_call 51; (with_reducible refine (same_calls _ _ (withR c s) _ (HCalA.out.below (by (repeat' (first | exact Below.refl _ _ | assumption | refine below_new ?_ _ | refine below_draw ?_ | refine below_tail (by assumption) ?_ | refine below_set ?_ (by first | omega | (simp <;> omega)) _)))) (HCalB.out.below (by (repeat' (first | exact Below.refl _ _ | assumption | refine below_new ?_ _ | refine below_draw ?_ | refine below_tail (by assumption) ?_ | refine below_set ?_ (by first | omega | (simp <;> omega)) _))))).use ?_); intro w4 hb4 hz4 _ _; (try simp at hz4); have hy4a : w.heap.size < w4.heap.size := (by omega); have hy4b : w.heap.size + 1 < w4.heap.size := (by omega); have hy4c : w.heap.size + 2 < w4.heap.size := (by omega); have hy4d : g < w4.heap.size := (by omega); have hy4e : w2.heap.size < w4.heap.size := (by omega); have hy4f : w3.heap.size < w4.heap.size := (by omega); have hx40 : ∀ o, w4.cell? ⟨w.heap.size, o, none⟩ = ((w3.alloc (.cells #[.int .i64 (withR c s).first, .slice a9f (withR c s).free.length p9f, .slice a9s (withR c s).still.length p9s] 25))).cell? ⟨w.heap.size, o, none⟩ := fun o => hb4.cell (p := ⟨w.heap.size, o, none⟩) (by first | (dsimp only; omega) | (simp <;> omega)); have hx41 : ∀ o, w4.cell? ⟨w.heap.size + 1, o, none⟩ = ((w3.alloc (.cells #[.int .i64 (withR c s).first, .slice a9f (withR c s).free.length p9f, .slice a9s (withR c s).still.length p9s] 25))).cell? ⟨w.heap.size + 1, o, none⟩ := fun o => hb4.cell (p := ⟨w.heap.size + 1, o, none⟩) (by first | (dsimp only; omega) | (simp <;> omega)); have hx42 : ∀ o, w4.cell? ⟨w.heap.size + 2, o, none⟩ = ((w3.alloc (.cells #[.int .i64 (withR c s).first, .slice a9f (withR c s).free.length p9f, .slice a9s (withR c s).still.length p9s] 25))).cell? ⟨w.heap.size + 2, o, none⟩ := fun o => hb4.cell (p := ⟨w.heap.size + 2, o, none⟩) (by first | (dsimp only; omega) | (simp <;> omega)); have hx43 : ∀ o, w4.cell? ⟨g, o, none⟩ = ((w3.alloc (.cells #[.int .i64 (withR c s).first, .slice a9f (withR c s).free.length p9f, .slice a9s (withR c s).still.length p9s] 25))).cell? ⟨g, o, none⟩ := fun o => hb4.cell (p := ⟨g, o, none⟩) (by first | (dsimp only; omega) | (simp <;> omega)); have hx44 : ∀ o, w4.cell? ⟨w2.heap.size, o, none⟩ = ((w3.alloc (.cells #[.int .i64 (withR c s).first, .slice a9f (withR c s).free.length p9f, .slice a9s (withR c s).still.length p9s] 25))).cell? ⟨w2.heap.size, o, none⟩ := fun o => hb4.cell (p := ⟨w2.heap.size, o, none⟩) (by first | (dsimp only; omega) | (simp <;> omega)); have hx45 : ∀ o, w4.cell? ⟨w3.heap.size, o, none⟩ = ((w3.alloc (.cells #[.int .i64 (withR c s).first, .slice a9f (withR c s).free.length p9f, .slice a9s (withR c s).still.length p9s] 25))).cell? ⟨w3.heap.size, o, none⟩ := fun o => hb4.cell (p := ⟨w3.heap.size, o, none⟩) (by first | (dsimp only; omega) | (simp <;> omega))) | (go_at_call 19; (with_reducible refine (Ends_calls _ c _ _ _ (HCal.out.below (by (repeat' (first | exact Below.refl _ _ | assumption | refine below_new ?_ _ | refine below_draw ?_ | refine below_tail (by assumption) ?_ | refine below_set ?_ (by first | omega | (simp <;> omega)) _))))).use ?_); intro w5 hb5 hz5 _ _; (try simp at hz5); have hy5a : w.heap.size < w5.heap.size := (by omega); have hy5b : w.heap.size + 1 < w5.heap.size := (by omega); have hy5c : w.heap.size + 2 < w5.heap.size := (by omega); have hy5d : g < w5.heap.size := (by omega); have hy5e : w2.heap.size < w5.heap.size := (by omega); have hy5f : w3.heap.size < w5.heap.size := (by omega); have hx50 : ∀ o, w5.cell? ⟨w.heap.size, o, none⟩ = (w4).cell? ⟨w.heap.size, o, none⟩ := fun o => hb5.cell (p := ⟨w.heap.size, o, none⟩) (by first | (dsimp only; omega) | (simp <;> omega)); have hx51 : ∀ o, w5.cell? ⟨w.heap.size + 1, o, none⟩ = (w4).cell? ⟨w.heap.size + 1, o, none⟩ := fun o => hb5.cell (p := ⟨w.heap.size + 1, o, none⟩) (by first | (dsimp only; omega) | (simp <;> omega)); have hx52 : ∀ o, w5.cell? ⟨w.heap.size + 2, o, none⟩ = (w4).cell? ⟨w.heap.size + 2, o, none⟩ := fun o => hb5.cell (p := ⟨w.heap.size + 2, o, none⟩) (by first | (dsimp only; omega) | (simp <;> omega)); have hx53 : ∀ o, w5.cell? ⟨g, o, none⟩ = (w4).cell? ⟨g, o, none⟩ := fun o => hb5.cell (p := ⟨g, o, none⟩) (by first | (dsimp only; omega) | (simp <;> omega)); have hx54 : ∀ o, w5.cell? ⟨w2.heap.size, o, none⟩ = (w4).cell? ⟨w2.heap.size, o, none⟩ := fun o => hb5.cell (p := ⟨w2.heap.size, o, none⟩) (by first | (dsimp only; omega) | (simp <;> omega)); have hx55 : ∀ o, w5.cell? ⟨w3.heap.size, o, none⟩ = (w4).cell? ⟨w3.heap.size, o, none⟩ := fun o => hb5.cell (p := ⟨w3.heap.size, o, none⟩) (by first | (dsimp only; omega) | (simp <;> omega))) | (go_at_call 19; (with_reducible refine (Ends_calls _ (withR c s) _ _ _ (HCalA.out.below (by (repeat' (first | exact Below.refl _ _ | assumption | refine below_new ?_ _ | refine below_draw ?_ | refine below_tail (by assumption) ?_ | refine below_set ?_ (by first | omega | (simp <;> omega)) _))))).use ?_); (try rw [HAsk.out]); intro w6 hb6 hz6 _ _; (try simp at hz6); have hy6a : w.heap.size < w6.heap.size := (by omega); have hy6b : w.heap.size + 1 < w6.heap.size := (by omega); have hy6c : w.heap.size + 2 < w6.heap.size := (by omega); have hy6d : g < w6.heap.size := (by omega); have hy6e : w2.heap.size < w6.heap.size := (by omega); have hy6f : w3.heap.size < w6.heap.size := (by omega); have hx60 : ∀ o, w6.cell? ⟨w.heap.size, o, none⟩ = (w5).cell? ⟨w.heap.size, o, none⟩ := fun o => hb6.cell (p := ⟨w.heap.size, o, none⟩) (by first | (dsimp only; omega) | (simp <;> omega)); have hx61 : ∀ o, w6.cell? ⟨w.heap.size + 1, o, none⟩ = (w5).cell? ⟨w.heap.size + 1, o, none⟩ := fun o => hb6.cell (p := ⟨w.heap.size + 1, o, none⟩) (by first | (dsimp only; omega) | (simp <;> omega)); have hx62 : ∀ o, w6.cell? ⟨w.heap.size + 2, o, none⟩ = (w5).cell? ⟨w.heap.size + 2, o, none⟩ := fun o => hb6.cell (p := ⟨w.heap.size + 2, o, none⟩) (by first | (dsimp only; omega) | (simp <;> omega)); have hx63 : ∀ o, w6.cell? ⟨g, o, none⟩ = (w5).cell? ⟨g, o, none⟩ := fun o => hb6.cell (p := ⟨g, o, none⟩) (by first | (dsimp only; omega) | (simp <;> omega)); have hx64 : ∀ o, w6.cell? ⟨w2.heap.size, o, none⟩ = (w5).cell? ⟨w2.heap.size, o, none⟩ := fun o => hb6.cell (p := ⟨w2.heap.size, o, none⟩) (by first | (dsimp only; omega) | (simp <;> omega)); have hx65 : ∀ o, w6.cell? ⟨w3.heap.size, o, none⟩ = (w5).cell? ⟨w3.heap.size, o, none⟩ := fun o => hb6.cell (p := ⟨w3.heap.size, o, none⟩) (by first | (dsimp only; omega) | (simp <;> omega))))
          have HL1 : Hid (LoopAt x w2.heap.size (.int .i64 (withR c s).first) (.slice a8f (withR c s).free.length p8f) (.slice a8s (withR c s).still.length p8s) (withR c s).free.length (withR c s).still.length w6) := HLoop.out.below (by (repeat' (first | exact Below.refl _ _ | assumption | refine below_new ?_ _ | refine below_draw ?_ | refine below_tail (by assumption) ?_ | refine below_set ?_ (by first | omega | (simp <;> omega)) _)))
          clear HLoop
          go_loopw [16] (fun i wr => ∃ k : Nat, k ≤ (withR c s).free.length ∧ i = .int .i64 k ∧ Hid (LoopAt x w2.heap.size (.int .i64 (withR c s).first) (.slice a8f (withR c s).free.length p8f) (.slice a8s (withR c s).still.length p8s) (withR c s).free.length (withR c s).still.length wr)) (fun i _ => (withR c s).free.length - (intOf i).toNat)
          case atStart => exact ⟨0, Nat.zero_le _, rfl, HL1.out⟩
          case round =>
            clear HL1
            obtain ⟨k, hk, rfl, HL1⟩ := hrel
            have h8 := HL1.out.2.2.2.2.2.1
            have k8 := cell_of_block h8 1
            simp at k8
            clear h8
            by_cases hlt : k < (withR c s).free.length
            · have hgk : decide ((k : Int) < ((withR c s).free.length : Int)) = true := by simpa using hlt
              obtain ⟨lF, hlF, hoF⟩ := HL1.out.2.1
              obtain ⟨gF, pF, eF, hgF, hgl⟩ := hoF.form (by omega)
              simp only [Value.slice.injEq] at eF
              obtain ⟨eF1, _, eF2⟩ := eF
              subst eF1 eF2
              have kF := hoF.cellAt k (by omega)
              rw [cells1_get (by omega)] at kF
              have zF := hoF.frozenAt k
              have hbF := own_len hoF
              clear hoF hlF
              go_wp2
              go_roundw
              case rel => exact ⟨k + 1, by omega, by go_num, HL1.out.setF⟩
              case measure => simp [intOf]; omega
            · have hgk : decide ((k : Int) < ((withR c s).free.length : Int)) = false := by simpa using hlt
              go_wp2
              clear k8
              go_loopw [17] (fun i wr => ∃ k : Nat, k ≤ (withR c s).still.length ∧ i = .int .i64 k ∧ Hid (LoopAt x w2.heap.size (.int .i64 (withR c s).first) (.slice a8f (withR c s).free.length p8f) (.slice a8s (withR c s).still.length p8s) (withR c s).free.length (withR c s).still.length wr)) (fun i _ => (withR c s).still.length - (intOf i).toNat)
              case atStart => exact ⟨0, Nat.zero_le _, rfl, HL1.out⟩
              case round =>
                clear HL1 hgk hlt hk
                obtain ⟨k, hk, rfl, HL1⟩ := hrel
                have h8 := HL1.out.2.2.2.2.2.1
                have k8 := cell_of_block h8 2
                simp at k8
                clear h8
                by_cases hlt : k < (withR c s).still.length
                · have hgk : decide ((k : Int) < ((withR c s).still.length : Int)) = true := by simpa using hlt
                  obtain ⟨lS, hlS, hoS⟩ := HL1.out.2.2.1
                  obtain ⟨gS, pS, eS, hgS, hgl⟩ := hoS.form (by omega)
                  simp only [Value.slice.injEq] at eS
                  obtain ⟨eS1, _, eS2⟩ := eS
                  subst eS1 eS2
                  have kS := hoS.cellAt (k * 2) (by omega)
                  rw [(cells2_get (by omega)).1] at kS
                  have zS := hoS.frozenAt (k * 2)
                  have hbS := own_len hoS
                  clear hoS hlS
                  go_wp2
                  go_roundw
                  case rel => exact ⟨k + 1, by omega, by go_num, HL1.out.setS⟩
                  case measure => simp [intOf]; omega
                · have hgk : decide ((k : Int) < ((withR c s).still.length : Int)) = false := by simpa using hlt
                  have hBw : Below x.heap.size x wr := HL1.out.1
                  have bw0 : ∀ o, wr.cell? ⟨w.heap.size, o, none⟩ = x.cell? ⟨w.heap.size, o, none⟩ := fun o => hBw.cell (p := ⟨w.heap.size, o, none⟩) (by dsimp only; omega)
                  have bw3 : ∀ o, wr.cell? ⟨g, o, none⟩ = x.cell? ⟨g, o, none⟩ := fun o => hBw.cell (p := ⟨g, o, none⟩) hgx
                  go_wp2_with (first | (go_at_call 51; (with_reducible refine (same_calls _ _ c _ (HCalOwn.out.below (by (repeat' (first | exact Below.refl _ _ | assumption | refine below_new ?_ _ | refine below_draw ?_ | refine below_tail (by assumption) ?_ | refine below_set ?_ (by first | omega | (simp <;> omega)) _)))) (HCal.out.below (by (repeat' (first | exact Below.refl _ _ | assumption | refine below_new ?_ _ | refine below_draw ?_ | refine below_tail (by assumption) ?_ | refine below_set ?_ (by first | omega | (simp <;> omega)) _))))).use ?_); intro w7 hb7 hz7 _ _) | (go_at_call 18; (with_reducible refine (known_calls _).use ?_); intro w8 hb8 hz8 _ _))
                  go_ret
                  exact ⟨rfl, by (repeat' (first | exact Below.refl _ _ | assumption | refine below_new ?_ _ | refine below_draw ?_ | refine below_tail (by assumption) ?_ | refine below_set ?_ (by first | omega | (simp <;> omega)) _))⟩
  · go_enter Try.func15, Try.ntmps15
    go_wp2_with (first | (go_at_call 17; (with_reducible refine (long_calls _ c _ (HCal.out.below (by (repeat' (first | exact Below.refl _ _ | assumption | refine below_new ?_ _ | refine below_draw ?_ | refine below_tail (by assumption) ?_ | refine below_set ?_ (by first | omega | (simp <;> omega)) _))))).use ?_); intro w1 hb1 hz1 hc1 hf1; (try simp at hz1); have hy1 : w.heap.size + 2 < w1.heap.size := (by omega); have hx10 := fun o => hc1 (w.heap.size) o (by first | omega | (simp <;> omega)); have hx11 := fun o => hc1 (w.heap.size + 1) o (by first | omega | (simp <;> omega)); have hx12 := fun o => hc1 (w.heap.size + 2) o (by first | omega | (simp <;> omega)); clear hc1 hf1; rw [hL]) | (go_at_call 18; (with_reducible refine (known_calls _).use ?_); intro w20 hb20 hz20 hc20 hf20; (try simp at hz20); have hy20 : w.heap.size + 2 < w20.heap.size := (by omega); have hx200 := fun o => hc20 (w.heap.size) o (by first | omega | (simp <;> omega)); have hx201 := fun o => hc20 (w.heap.size + 1) o (by first | omega | (simp <;> omega)); have hx202 := fun o => hc20 (w.heap.size + 2) o (by first | omega | (simp <;> omega)); clear hc20 hf20))
    go_ret
    exact ⟨rfl, by (repeat' (first | exact Below.refl _ _ | assumption | refine below_new ?_ _ | refine below_draw ?_ | refine below_tail (by assumption) ?_ | refine below_set ?_ (by first | omega | (simp <;> omega)) _))⟩
end Go.Proofs.Ytnhohnnoffhkhaa
