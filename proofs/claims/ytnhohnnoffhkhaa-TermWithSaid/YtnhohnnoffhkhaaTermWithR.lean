/- What With of the reference gives: a calendar in memory of its own, and an error. Conditions: a calendar lies in memory as said. -/
import Derived.Test.YtnhohnnoffhkhaaTermWithP
import Derived.Deep.RegionHeld3
import Derived.Outline
namespace Go.Proofs.Ytnhohnnoffhkhaa
open Go.RowKit

/-- What holds while the calendar is put together, d: the operations done. -/
def WithRI (c : Cal) (fa : Option Addr) (fc B : Nat) (y : World) (v0 v1 v5 v6 v8 v9 v10 v11 v12 v13 v14 v15 v16 v17 v18 v19 v20 v21 v22 v23 v24 v32 v33 v34 v35 v36 v37 v38 v39 v40 v41 v42 v43 v44 v45 v46 v47 v48 v49 v50 v51 v52 v53 v54 v55 v56 v57 v58 v59 v60 v61 v62 v63 v64 v65 v66 v67 v68 v69 v70 v71 v72 v73 v74 v75 v76 v77 v78 v79 v80 v81 v82 v83 v84 v85 v86 v87 v88 v89 v90 v91 v92 v93 v94 v95 v96 v97 : Value) (d : Nat → Bool) (a : Act) (x : World) : Prop :=
  ∃ u7 u25 u26 u27 u28 u29 u30 u31 : Value, a = ⟨#[v0, v1, .pointer (some ⟨B, 0, none⟩), .pointer (some ⟨B + 1, 0, none⟩), .pointer (some ⟨B + 1 + 1, 0, none⟩), v5, v6, u7, v8, v9, v10, v11, v12, v13, v14, v15, v16, v17, v18, v19, v20, v21, v22, v23, v24, u25, u26, u27, u28, u29, u30, u31, v32, v33, v34, v35, v36, v37, v38, v39, v40, v41, v42, v43, v44, v45, v46, v47, v48, v49, v50, v51, v52, v53, v54, v55, v56, v57, v58, v59, v60, v61, v62, v63, v64, v65, v66, v67, v68, v69, v70, v71, v72, v73, v74, v75, v76, v77, v78, v79, v80, v81, v82, v83, v84, v85, v86, v87, v88, v89, v90, v91, v92, v93, v94, v95, v96, v97], []⟩ ∧
    (Below y.heap.size y x) ∧
    (d 0 = true → u25 = .pointer (some ⟨B, 0, none⟩)) ∧
    (d 1 = true → u26 = .int .i64 c.first) ∧
    (d 3 = true → u28 = .pointer (some ⟨B, 1, none⟩)) ∧
    (d 4 = true → u29 = .slice fa c.free.length fc) ∧
    (d 5 = true → d 2 = true ∧ d 4 = true) ∧
    (d 6 = true → u31 = .agg #[.int .i64 c.first, u30, .slice none 0 0]) ∧
    (d 6 = true → d 5 = true) ∧
    (d 8 = true → d 6 = true ∧ d 7 = true) ∧
    (d 2 = true → d 5 = false → x.ownsRow y.heap.size 3 1 u27 0 []) ∧
    (d 5 = true → x.ownsRow y.heap.size 3 1 u30 c.free.length (cells1 c.free)) ∧
    (d 7 = true → ∃ (g : Nat) (cs : Nat → Value), u7 = .pointer (some ⟨g, 0, none⟩) ∧ y.heap.size ≤ g ∧ x.heap[g]? = some (.cells #[cs 0, cs 1, cs 2] 25 (0, 0)) ∧ (d 8 = true → cs 0 = .int .i64 c.first ∧ cs 1 = u30 ∧ cs 2 = .slice none 0 0) ∧ (d 2 = true → d 5 = false → u27.ownBlock ≠ some g) ∧ (d 5 = true → u30.ownBlock ≠ some g))

/-- The calendar that is being filled: its box, its rows. -/
def OutAt (c : Cal) (y : World) (g : Nat) (fv sv : Value) (acc : List (Int × Int)) (x : World) : Prop :=
  y.heap.size ≤ g ∧ Below y.heap.size y x ∧ x.heap[g]? = some (.cells #[.int .i64 c.first, fv, sv] 25 (0, 0)) ∧ x.ownsRow y.heap.size 3 1 fv c.free.length (cells1 c.free) ∧
    x.ownsRow y.heap.size 50 2 sv acc.length (cells2 acc) ∧ fv.ownBlock ≠ some g ∧ sv.ownBlock ≠ some g ∧ apt fv sv
theorem OutAt.app {c : Cal} {y x x1 x2 : World} {g : Nat} {fv sv v' : Value} {acc : List (Int × Int)} {p : Int × Int} (h : OutAt c y g fv sv acc x) (hb : Below x.heap.size x x1) (ho : x2.ownsRow y.heap.size 50 2 v' (acc.length + 1) (cells2 acc ++ cells2 [p]))
    (hg : x1.grownBy x2 sv.ownBlock) (hat : v'.ownBlock = sv.ownBlock ∨ v'.ownBlock = some x1.heap.size) : OutAt c y g fv v' (acc ++ [p]) (x2.setCell ⟨g, 2, none⟩ v') := by
  obtain ⟨h1, h2, h3, h4, h5, h6, h7, h8⟩ := h
  have hx := (Array.getElem?_eq_some_iff.1 h3).1
  have h3' := blk_below h3 hb
  have hx1 := (Array.getElem?_eq_some_iff.1 h3').1
  have h4' := own_below h4 hb
  have h5' := own_below h5 hb
  have hne := ne_app hx1 h7 hat
  have hB : Below y.heap.size y x2 := below_grow (below_tail hb h2) hg (fun k hk => (h5'.lt k hk).1)
  refine ⟨h1, below_set hB h1 _, ?_, own_set1 (h4'.kept hg (apt_or h8)) h6, ?_, h6, hne, apt_app h4' h8 hat⟩
  · have := block_set ((hg.block g hx1 (fun e => h7 e.symm)).trans h3') 2 v'
    simpa using this
  · rw [cells2_append, List.length_append]
    exact own_set1 ho hne
theorem insF_yes {a s : Int × Int} {l : List (Int × Int)} (h : s.1 < a.1) : insF (a :: l) s = s :: a :: l := by unfold insF; rw [if_pos h]
theorem insF_no {a s : Int × Int} {l : List (Int × Int)} (h : ¬ s.1 < a.1) : insF (a :: l) s = a :: insF l s := by rw [insF, if_neg h]
theorem drop_gi {l : List (Int × Int)} {k : Nat} (h : k < l.length) : l.drop k = gi l (0, 0) k :: l.drop (k + 1) := by rw [List.drop_eq_getElem_cons h]; simp [gi, h]
/-- What the loop has come to. -/
def WRel (c : Cal) (s : Int × Int) (y : World) (g : Nat) (fv : Value) (k : Nat) (b : Bool) (sv : Value) (x : World) : Prop :=
  ∃ acc, (∀ i, i < k → lapB (gi c.still (0, 0) i) s = false) ∧ acc ++ (if b then c.still.drop k else insF (c.still.drop k) s) = insF c.still s ∧ acc.length ≤ k + 1 ∧ (b = false → acc.length ≤ k) ∧ OutAt c y g fv sv acc x

theorem OutAt.below {c : Cal} {y x x' : World} {g : Nat} {fv sv : Value} {acc : List (Int × Int)} (h : OutAt c y g fv sv acc x) (hb : Below x.heap.size x x') : OutAt c y g fv sv acc x' := by
  obtain ⟨h1, h2, h3, h4, h5, h6, h7, h8⟩ := h
  exact ⟨h1, below_tail hb h2, blk_below h3 hb, own_below h4 hb, own_below h5 hb, h6, h7, h8⟩
theorem cell_set_ne {w : World} {g i : Nat} {v : Value} {p : Addr} (h : p.block ≠ g) : (w.setCell ⟨g, i, none⟩ v).cell? p = w.cell? p := World.cell?_of_block (Below.heap_setCell _ _ _ _ h)
theorem far5 {x x1 x5 : World} {v u : Value} {p : Addr} (hc : x.cell? p = some u) (hb : Below x.heap.size x x1) (hg : x1.grownBy x5 v.ownBlock) (hne : v.ownBlock ≠ some p.block) : x5.cell? p = some u := by
  have h := block_lt_of_cell hc
  rw [hg.cell_far p (Nat.lt_of_lt_of_le h hb.size) (fun e => hne e.symm), hb.cell h, hc]
theorem far5f {x x1 x5 : World} {v : Value} {p : Addr} (hl : p.block < x.heap.size) (hc : x.frozen? p = false) (hb : Below x.heap.size x x1) (hg : x1.grownBy x5 v.ownBlock) (hne : v.ownBlock ≠ some p.block) : x5.frozen? p = false := by
  rw [hg.frozen_far p (Nat.lt_of_lt_of_le hl hb.size) (fun e => hne e.symm), hb.frozen hl, hc]

set_option maxHeartbeats 4000000 in
set_option maxRecDepth 100000 in
theorem refWith_calls (v : Value) (c : Cal) (s : Int × Int) (w : World) (h : CalAt w v c) :
    GivesC Try.prog 50 #[v, .agg #[.int .i64 s.1, .int .i64 s.2]] w (withR c s) (withE c s) := by
  obtain ⟨fa, fc, sa, sc, rfl, hf, hs, hfc, hsc, hfl, hsl⟩ := h.cells
  have HCal := Lib.hid h
  clear h hf hs
  unfold GivesC
  have HE0 : Hid (withE c s = if validF c = 0 then (if 4 ≤ c.still.length then 3 else if spanB s then (if c.still.any (fun a => lapB a s) then 6 else 0) else 1) else validF c) := rfl
  by_cases hz : validF c = 0
  · have Hz := Lib.hid hz
    have hz1 : (validF c == 0) = true := by simpa using hz
    have hz2 : (validF c != 0) = false := by simpa using hz
    have hlen := (valid_parts.1 hz).2.2.1
    clear hz
    by_cases h4 : 4 ≤ c.still.length
    · have hg : decide (4 ≤ (c.still.length : Int)) = true := decide_eq_true (by omega)
      have HE : Hid (withE c s = 3) := by unfold Hid; rw [HE0.out, if_pos Hz.out, if_pos (by omega)]
      clear h4
      go_enter Try.func50, Try.ntmps50
      go_wp2_with (first | (go_at_call 41; (with_reducible refine (rvalidate_calls _ c _ (HCal.out.below (by (repeat' (first | exact Below.refl _ _ | assumption | refine below_new ?_ _ | refine below_draw ?_ | refine below_tail (by assumption) ?_ | refine below_set ?_ (by first | omega | (simp <;> omega)) _))))).use ?_); intro w1 hb1 hz1 hc1 hf1; (try simp at hz1); have hy1 : w.heap.size + 2 < w1.heap.size := (by omega); have hx10 := fun o => hc1 (w.heap.size) o (by first | omega | (simp <;> omega)); have hx11 := fun o => hc1 (w.heap.size + 1) o (by first | omega | (simp <;> omega)); have hx12 := fun o => hc1 (w.heap.size + 2) o (by first | omega | (simp <;> omega)); have hq1 := fun o => hf1 (w.heap.size + 2) o (by first | omega | (simp <;> omega)); clear hc1 hf1))
      (try simp only [Exit.inBlock, Exit.then])
      refine bodyPost_ret (v := .tuple #[.agg #[.int .i64 0, .slice none 0 0, .slice none 0 0], .int .i64 (withE c s)]) (by rw [HE.out]; simp [results, Try.f50, go_sem, hx12]) rfl ?_
      exact ⟨_, _, by rw [withR_bad (by rw [HE.out]; decide)], by rw [withR_bad (by rw [HE.out]; decide)]; exact World.ownsRow_nil _ _ _ _, by rw [withR_bad (by rw [HE.out]; decide)]; exact World.ownsRow_nil _ _ _ _, .inl rfl, by (repeat' (first | exact Below.refl _ _ | assumption | refine below_new ?_ _ | refine below_draw ?_ | refine below_tail (by assumption) ?_ | refine below_set ?_ (by first | omega | (simp <;> omega)) _))⟩
    · have hg : decide (4 ≤ (c.still.length : Int)) = false := decide_eq_false (by omega)
      cases hs : spanB s
      · have HE : Hid (withE c s = 1) := by unfold Hid; rw [HE0.out, if_pos Hz.out, if_neg (by omega), hs]; rfl
        go_enter Try.func50, Try.ntmps50
        go_wp2_with (first | (go_at_call 41; (with_reducible refine (rvalidate_calls _ c _ (HCal.out.below (by (repeat' (first | exact Below.refl _ _ | assumption | refine below_new ?_ _ | refine below_draw ?_ | refine below_tail (by assumption) ?_ | refine below_set ?_ (by first | omega | (simp <;> omega)) _))))).use ?_); intro w1 hb1 hz1 hc1 hf1; (try simp at hz1); have hy1 : w.heap.size + 2 < w1.heap.size := (by omega); have hx10 := fun o => hc1 (w.heap.size) o (by first | omega | (simp <;> omega)); have hx11 := fun o => hc1 (w.heap.size + 1) o (by first | omega | (simp <;> omega)); have hx12 := fun o => hc1 (w.heap.size + 2) o (by first | omega | (simp <;> omega)); have hq1 := fun o => hf1 (w.heap.size + 2) o (by first | omega | (simp <;> omega)); clear hc1 hf1) | (go_at_call 84; (with_reducible refine (rspan_calls s _).use ?_); intro w2 hb2 hz2 hc2 hf2; (try simp at hz2); have hy2 : w.heap.size + 2 < w2.heap.size := (by omega); have hx20 := fun o => hc2 (w.heap.size) o (by first | omega | (simp <;> omega)); have hx21 := fun o => hc2 (w.heap.size + 1) o (by first | omega | (simp <;> omega)); have hx22 := fun o => hc2 (w.heap.size + 2) o (by first | omega | (simp <;> omega)); have hq2 := fun o => hf2 (w.heap.size + 2) o (by first | omega | (simp <;> omega)); clear hc2 hf2; rw [hs]))
        (try simp only [Exit.inBlock, Exit.then])
        refine bodyPost_ret (v := .tuple #[.agg #[.int .i64 0, .slice none 0 0, .slice none 0 0], .int .i64 (withE c s)]) (by rw [HE.out]; simp [results, Try.f50, go_sem, hx22, hx12]) rfl ?_
        exact ⟨_, _, by rw [withR_bad (by rw [HE.out]; decide)], by rw [withR_bad (by rw [HE.out]; decide)]; exact World.ownsRow_nil _ _ _ _, by rw [withR_bad (by rw [HE.out]; decide)]; exact World.ownsRow_nil _ _ _ _, .inl rfl, by (repeat' (first | exact Below.refl _ _ | assumption | refine below_new ?_ _ | refine below_draw ?_ | refine below_tail (by assumption) ?_ | refine below_set ?_ (by first | omega | (simp <;> omega)) _))⟩
      · go_enter Try.func50, Try.ntmps50
        go_wp2_with (first | (go_at_call 41; (with_reducible refine (rvalidate_calls _ c _ (HCal.out.below (by (repeat' (first | exact Below.refl _ _ | assumption | refine below_new ?_ _ | refine below_draw ?_ | refine below_tail (by assumption) ?_ | refine below_set ?_ (by first | omega | (simp <;> omega)) _))))).use ?_); intro w1 hb1 hz1 hc1 hf1; (try simp at hz1); have hy1 : w.heap.size + 2 < w1.heap.size := (by omega); have hx10 := fun o => hc1 (w.heap.size) o (by first | omega | (simp <;> omega)); have hx11 := fun o => hc1 (w.heap.size + 1) o (by first | omega | (simp <;> omega)); have hx12 := fun o => hc1 (w.heap.size + 2) o (by first | omega | (simp <;> omega)); have hq1 := fun o => hf1 (w.heap.size + 2) o (by first | omega | (simp <;> omega)); clear hc1 hf1) | (go_at_call 84; (with_reducible refine (rspan_calls s _).use ?_); intro w2 hb2 hz2 hc2 hf2; (try simp at hz2); have hy2 : w.heap.size + 2 < w2.heap.size := (by omega); have hx20 := fun o => hc2 (w.heap.size) o (by first | omega | (simp <;> omega)); have hx21 := fun o => hc2 (w.heap.size + 1) o (by first | omega | (simp <;> omega)); have hx22 := fun o => hc2 (w.heap.size + 2) o (by first | omega | (simp <;> omega)); have hq2 := fun o => hf2 (w.heap.size + 2) o (by first | omega | (simp <;> omega)); clear hc2 hf2; rw [hs]))
        have hw2 : Below w.heap.size w w2 := by (repeat' (first | exact Below.refl _ _ | assumption | refine below_new ?_ _ | refine below_draw ?_ | refine below_tail (by assumption) ?_ | refine below_set ?_ (by first | omega | (simp <;> omega)) _))
        have c0 : w2.cell? ⟨w.heap.size, 0, none⟩ = some (.int .i64 c.first) := by simp [hx20, hx10, go_sem]
        have c1 : w2.cell? ⟨w.heap.size, 1, none⟩ = some (.slice fa c.free.length fc) := by simp [hx20, hx10, go_sem]
        have c2 : w2.cell? ⟨w.heap.size, 2, none⟩ = some (.slice sa c.still.length sc) := by simp [hx20, hx10, go_sem]
        have d0 : w2.cell? ⟨w.heap.size + 1, 0, none⟩ = some (.int .i64 s.1) := by simp [hx21, hx11, go_sem]
        have d1 : w2.cell? ⟨w.heap.size + 1, 1, none⟩ = some (.int .i64 s.2) := by simp [hx21, hx11, go_sem]
        obtain ⟨hfl12, hst4⟩ := And.intro (valid_parts.1 Hz.out).2.1 hlen
        have HF2 : Hid (IntsAt w2 (.slice fa c.free.length fc) c.free) := by
          obtain ⟨fv, sv, e, hI, hP⟩ := HCal.out.below hw2
          simp only [Value.agg.injEq, Array.mk.injEq, List.cons.injEq, and_true, true_and] at e
          rw [e.1]; exact hI
        have HP2 : Hid (PairsAt w2 (.slice sa c.still.length sc) c.still) := by
          obtain ⟨fv, sv, e, hI, hP⟩ := HCal.out.below hw2
          simp only [Value.agg.injEq, Array.mk.injEq, List.cons.injEq, and_true, true_and] at e
          rw [e.2]; exact hP
        refine wp_region_inv mixed (by kernel_rfl) (WithRI c fa fc w.heap.size w2 (.agg #[.int .i64 c.first, .slice fa c.free.length fc, .slice sa c.still.length sc]) (.agg #[.int .i64 s.1, .int .i64 s.2]) (.int .i64 0) (.int .i64 (validF c)) undef undef (.agg #[.int .i64 c.first, .slice fa c.free.length fc, .slice sa c.still.length sc]) (.int .i64 (validF c)) (.int .i64 (validF c)) (.bool false) undef undef (.pointer (some ⟨w.heap.size, 2, none⟩)) (.slice sa c.still.length sc) (.int .i64 (c.still.length : Int)) (.bool false) undef (.agg #[.int .i64 s.1, .int .i64 s.2]) (.bool true) (.bool false) undef undef undef undef undef undef undef undef undef undef undef undef undef undef undef undef undef undef undef undef undef undef undef undef undef undef undef undef undef undef undef undef undef undef undef undef undef undef undef undef undef undef undef undef undef undef undef undef undef undef undef undef undef undef undef undef undef undef undef undef undef undef undef undef undef undef undef) ?h0 ?hstep ?hend
        case h0 =>
          unfold WithRI
          refine ⟨_, _, _, _, _, _, _, _, rfl, below_draw (Below.refl _ _), ?_⟩
          simp only [Bool.false_eq_true, false_implies, and_self]
        case hstep =>
          intro d a x hI i hi hdi hed
          unfold WithRI at hI
          obtain ⟨u7, u25, u26, u27, u28, u29, u30, u31, rfl, fb, f0, f1, f3, f4, fc5, f6, fc6, fc8, fra, frf, fx⟩ := hI
          have hi' : i < 9 := hi
          clear hi
          rcases (show i = 0 ∨ i = 1 ∨ i = 2 ∨ i = 3 ∨ i = 4 ∨ i = 5 ∨ i = 6 ∨ i = 7 ∨ i = 8 by omega) with rfl | rfl | rfl | rfl | rfl | rfl | rfl | rfl | rfl
          · skip
            have he := hed _ rfl
            simp only [Region.binds] at he
            try simp at he
            clear hed
            refine wpOp_step rfl (fun K hK => ?_)
            go_simp
            (try (refine hK _ _ ?_; clear hK K))
            unfold WithRI
            refine ⟨_, _, _, _, _, _, _, _, rfl, ?_⟩
            simp only [Nat.reduceBEq, Bool.false_or, Bool.true_or, beq_self_eq_true, forall_const]
            exact ⟨fb,
              (by first | exact (by trivial) | (intros; trivial)),
              (by first | exact f1 | (intros; trivial)),
              (by first | exact f3 | (intros; trivial)),
              (by first | exact f4 | (intros; trivial)),
              fc5,
              (by first | exact f6 | (intros; trivial)),
              fc6,
              fc8,
              fra,
              frf,
              fx⟩
          · skip
            have he := hed _ rfl
            simp only [Region.binds] at he
            try simp at he
            clear hed
            have e0 : d 0 = true := by first | exact he | exact he.1 | exact he.2.1 | exact he.2.2.1 | exact he.2.2.2.1 | exact he.2.2.2.2.1 | exact he.2 | exact he.2.2 | exact he.2.2.2 | exact he.2.2.2.2
            have g0 := f0 e0
            subst g0
            refine wpOp_step rfl (fun K hK => ?_)
            have qc0 := (fb.cell (p := ⟨w.heap.size, 0, none⟩) (by dsimp only; omega)).trans c0
            go_simp
            (try (refine hK _ _ ?_; clear hK K))
            unfold WithRI
            refine ⟨_, _, _, _, _, _, _, _, rfl, ?_⟩
            simp only [Nat.reduceBEq, Bool.false_or, Bool.true_or, beq_self_eq_true, forall_const]
            exact ⟨fb,
              (by first | exact (by intros; trivial) | (intros; trivial)),
              (by first | exact (by trivial) | (intros; trivial)),
              (by first | exact f3 | (intros; trivial)),
              (by first | exact f4 | (intros; trivial)),
              fc5,
              (by first | exact f6 | (intros; trivial)),
              fc6,
              fc8,
              fra,
              frf,
              fx⟩
          · skip
            have he := hed _ rfl
            simp only [Region.binds] at he
            try simp at he
            clear hed
            have hb3 : Below x.heap.size x (x.alloc (.cells #[] 3)) := (Below.refl _ _).alloc (Nat.le_refl _) _
            have hof : Hid ((x.alloc (.cells #[] 3)).ownsRow x.heap.size 3 1 (.slice (some ⟨x.heap.size, 0, none⟩) 0 0) 0 []) := World.ownsRow_made (base := x.heap.size) (e := 3) (size := 1) x #[] 0 (Nat.le_refl _) (by decide) (by simp)
            refine wpOp_step rfl (fun K hK => ?_)
            go_simp
            replace hof := hof.out
            (try (refine hK _ _ ?_; clear hK K))
            unfold WithRI
            refine ⟨_, _, _, _, _, _, _, _, rfl, ?_⟩
            simp only [Nat.reduceBEq, Bool.false_or, Bool.true_or, beq_self_eq_true, forall_const]
            exact ⟨below_tail hb3 fb,
              (by first | exact f0 | (intros; trivial)),
              (by first | exact f1 | (intros; trivial)),
              (by first | exact f3 | (intros; trivial)),
              (by first | exact f4 | (intros; trivial)),
              fun h5 => ⟨trivial, (fc5 h5).2⟩,
              (by first | exact f6 | (intros; trivial)),
              fc6,
              fc8,
              fun h5n => own_base hof fb.size,
              fun h5 => own_below (frf h5) hb3,
              fun hal => let ⟨g, cs, e, hg, hx, h13, hna, hnf⟩ := fx hal; ⟨g, cs, e, hg, blk_below hx hb3, h13, fun h5n => fun hk => absurd ((hof.lt g hk).1) (Nat.not_le.2 (Array.getElem?_eq_some_iff.1 hx).1), hnf⟩⟩
          · skip
            have he := hed _ rfl
            simp only [Region.binds] at he
            try simp at he
            clear hed
            refine wpOp_step rfl (fun K hK => ?_)
            go_simp
            (try (refine hK _ _ ?_; clear hK K))
            unfold WithRI
            refine ⟨_, _, _, _, _, _, _, _, rfl, ?_⟩
            simp only [Nat.reduceBEq, Bool.false_or, Bool.true_or, beq_self_eq_true, forall_const]
            exact ⟨fb,
              (by first | exact f0 | (intros; trivial)),
              (by first | exact f1 | (intros; trivial)),
              (by first | exact (by trivial) | (intros; trivial)),
              (by first | exact f4 | (intros; trivial)),
              fc5,
              (by first | exact f6 | (intros; trivial)),
              fc6,
              fc8,
              fra,
              frf,
              fx⟩
          · skip
            have he := hed _ rfl
            simp only [Region.binds] at he
            try simp at he
            clear hed
            have e3 : d 3 = true := by first | exact he | exact he.1 | exact he.2.1 | exact he.2.2.1 | exact he.2.2.2.1 | exact he.2.2.2.2.1 | exact he.2 | exact he.2.2 | exact he.2.2.2 | exact he.2.2.2.2
            have g3 := f3 e3
            subst g3
            refine wpOp_step rfl (fun K hK => ?_)
            have qc1 := (fb.cell (p := ⟨w.heap.size, 1, none⟩) (by dsimp only; omega)).trans c1
            go_simp
            (try (refine hK _ _ ?_; clear hK K))
            unfold WithRI
            refine ⟨_, _, _, _, _, _, _, _, rfl, ?_⟩
            simp only [Nat.reduceBEq, Bool.false_or, Bool.true_or, beq_self_eq_true, forall_const]
            exact ⟨fb,
              (by first | exact f0 | (intros; trivial)),
              (by first | exact f1 | (intros; trivial)),
              (by first | exact (by intros; trivial) | (intros; trivial)),
              (by first | exact (by trivial) | (intros; trivial)),
              fun h5 => ⟨(fc5 h5).1, trivial⟩,
              (by first | exact f6 | (intros; trivial)),
              fc6,
              fc8,
              fra,
              frf,
              fx⟩
          · skip
            have he := hed _ rfl
            simp only [Region.binds] at he
            try simp at he
            clear hed
            have e4 : d 4 = true := by first | exact he | exact he.1 | exact he.2.1 | exact he.2.2.1 | exact he.2.2.2.1 | exact he.2.2.2.2.1 | exact he.2 | exact he.2.2 | exact he.2.2.2 | exact he.2.2.2.2
            have e2 : d 2 = true := by first | exact he | exact he.1 | exact he.2.1 | exact he.2.2.1 | exact he.2.2.2.1 | exact he.2.2.2.2.1 | exact he.2 | exact he.2.2 | exact he.2.2.2 | exact he.2.2.2.2
            have g4 := f4 e4
            subst g4
            have hos := (fra e2 hdi)
            obtain ⟨i0, hi0, hz0, hi1, hi2⟩ := info_parts infoInt
            refine wpOp_step rfl (fun K hK => ?_)
            refine step_append_any (by rfl) _ _ _ (by rfl) w2.heap.size 3 i0 (.int .i64 0) 1 8 Try.underlying22 hi0 hz0 hi1 hi2 (by rfl) (by decide) u27 0 [] (by rfl) hos _ c.free.length (cells1 c.free) (by rfl) (ints_src (HF2.out.below fb)) (by unfold maxLen; omega) (by omega) fb.size ?_
            intro v5 w5 hown5 hgrow hat
            simp only [Nat.zero_add, List.nil_append] at hown5
            (try (refine hK _ _ ?_; clear hK K))
            unfold WithRI
            refine ⟨_, _, _, _, _, _, _, _, rfl, ?_⟩
            simp only [Nat.reduceBEq, Bool.false_or, Bool.true_or, beq_self_eq_true, Bool.true_eq_false, false_implies, forall_const]
            exact ⟨below_grow fb hgrow (fun k hk => (hos.lt k hk).1),
              (by first | exact f0 | (intros; trivial)),
              (by first | exact f1 | (intros; trivial)),
              (by first | exact f3 | (intros; trivial)),
              (by first | exact (by intros; trivial) | (intros; trivial)),
              ⟨e2, e4⟩,
              (by first | exact fun h6 => not_both ((fc6 h6)) hdi | (intros; trivial)),
              fun h6 => trivial,
              fc8,
              (by intros; trivial),
              hown5,
              fun hal => let ⟨g, cs, e, hg, hx, h13, hna, hnf⟩ := fx hal; ⟨g, cs, e, hg, (hgrow.block g (Array.getElem?_eq_some_iff.1 hx).1 (fun e => hna e2 hdi e.symm)).trans hx, fun h8 => not_both ((fc6 (fc8 h8).1)) hdi, (by intros; trivial), ne_app (Array.getElem?_eq_some_iff.1 hx).1 (hna e2 hdi) hat⟩⟩
          · skip
            have he := hed _ rfl
            simp only [Region.binds] at he
            try simp at he
            clear hed
            have e1 : d 1 = true := by first | exact he | exact he.1 | exact he.2.1 | exact he.2.2.1 | exact he.2.2.2.1 | exact he.2.2.2.2.1 | exact he.2 | exact he.2.2 | exact he.2.2.2 | exact he.2.2.2.2
            have e5 : d 5 = true := by first | exact he | exact he.1 | exact he.2.1 | exact he.2.2.1 | exact he.2.2.2.1 | exact he.2.2.2.2.1 | exact he.2 | exact he.2.2 | exact he.2.2.2 | exact he.2.2.2.2
            have g1 := f1 e1
            subst g1
            obtain ⟨a30, p30, q30⟩ := own_slice (frf e5)
            subst q30
            refine wpOp_step rfl (fun K hK => ?_)
            go_simp
            (try (refine hK _ _ ?_; clear hK K))
            unfold WithRI
            refine ⟨_, _, _, _, _, _, _, _, rfl, ?_⟩
            simp only [Nat.reduceBEq, Bool.false_or, Bool.true_or, beq_self_eq_true, forall_const]
            exact ⟨fb,
              (by first | exact f0 | (intros; trivial)),
              (by first | exact (by intros; trivial) | (intros; trivial)),
              (by first | exact f3 | (intros; trivial)),
              (by first | exact f4 | (intros; trivial)),
              fc5,
              (by first | exact (by trivial) | (intros; trivial)),
              e5,
              fun h8 => ⟨trivial, (fc8 h8).2⟩,
              fra,
              frf,
              fx⟩
          · skip
            have he := hed _ rfl
            simp only [Region.binds] at he
            try simp at he
            clear hed
            have hb3 : Below x.heap.size x (x.alloc (.cells #[.int .i64 0, .slice none 0 0, .slice none 0 0] 25)) := (Below.refl _ _).alloc (Nat.le_refl _) _
            have hblk : Hid ((x.alloc (.cells #[.int .i64 0, .slice none 0 0, .slice none 0 0] 25)).heap[x.heap.size]? = some (.cells #[.int .i64 0, .slice none 0 0, .slice none 0 0] 25 (0, 0))) := World.alloc_heap_new _ _
            refine wpOp_step rfl (fun K hK => ?_)
            go_simp
            replace hblk := hblk.out
            (try (refine hK _ _ ?_; clear hK K))
            unfold WithRI
            refine ⟨_, _, _, _, _, _, _, _, rfl, ?_⟩
            simp only [Nat.reduceBEq, Bool.false_or, Bool.true_or, beq_self_eq_true, forall_const]
            exact ⟨below_tail hb3 fb,
              (by first | exact f0 | (intros; trivial)),
              (by first | exact f1 | (intros; trivial)),
              (by first | exact f3 | (intros; trivial)),
              (by first | exact f4 | (intros; trivial)),
              fc5,
              (by first | exact f6 | (intros; trivial)),
              fc6,
              fun h8 => ⟨(fc8 h8).1, trivial⟩,
              fun h2 h5n => own_below (fra h2 h5n) hb3,
              fun h5 => own_below (frf h5) hb3,
              ⟨_, fun i => if i = 0 then .int .i64 0 else if i = 1 then .slice none 0 0 else .slice none 0 0, rfl, fb.size, hblk, fun h8 => not_both ((fc8 h8).2) hdi, fun h2 h5n => ne_new (fra h2 h5n) (Nat.le_refl _), fun h5 => ne_new (frf h5) (Nat.le_refl _)⟩⟩
          · skip
            have he := hed _ rfl
            simp only [Region.binds] at he
            try simp at he
            clear hed
            have e6 : d 6 = true := by first | exact he | exact he.1 | exact he.2.1 | exact he.2.2.1 | exact he.2.2.2.1 | exact he.2.2.2.2.1 | exact he.2 | exact he.2.2 | exact he.2.2.2 | exact he.2.2.2.2
            have e7 : d 7 = true := by first | exact he | exact he.1 | exact he.2.1 | exact he.2.2.1 | exact he.2.2.2.1 | exact he.2.2.2.2.1 | exact he.2 | exact he.2.2 | exact he.2.2.2 | exact he.2.2.2.2
            have g6 := f6 e6
            subst g6
            obtain ⟨g, cs, e7, hg, hx, h13, hna, hnf⟩ := fx e7
            subst e7
            obtain ⟨a30, p30, q30⟩ := own_slice (frf (fc6 e6))
            subst q30
            have k0 := cell_of_block hx 0
            have l0 := frozen_of_block hx 0
            have k1 := cell_of_block hx 1
            have l1 := frozen_of_block hx 1
            have k2 := cell_of_block hx 2
            have l2 := frozen_of_block hx 2
            simp at k0 k1 k2
            have hgr : Hid (x.grownBy (((x.setCell ⟨g, 0, none⟩ (.int .i64 c.first)).setCell ⟨g, 1, none⟩ (.slice a30 c.free.length p30)).setCell ⟨g, 2, none⟩ (.slice none 0 0)) (some g)) := (grown_trans (grown_trans (grown_set x ⟨g, 0, none⟩ (.int .i64 c.first)) (grown_set (x.setCell ⟨g, 0, none⟩ (.int .i64 c.first)) ⟨g, 1, none⟩ (.slice a30 c.free.length p30))) (grown_set ((x.setCell ⟨g, 0, none⟩ (.int .i64 c.first)).setCell ⟨g, 1, none⟩ (.slice a30 c.free.length p30)) ⟨g, 2, none⟩ (.slice none 0 0)))
            have hblk : Hid ((((x.setCell ⟨g, 0, none⟩ (.int .i64 c.first)).setCell ⟨g, 1, none⟩ (.slice a30 c.free.length p30)).setCell ⟨g, 2, none⟩ (.slice none 0 0)).heap[g]? = some (.cells #[.int .i64 c.first, .slice a30 c.free.length p30, .slice none 0 0] 25 (0, 0))) := (block_set (block_set (block_set hx 0 _) 1 _) 2 _)
            have HX := Lib.hid hx
            clear hx
            refine wpOp_step rfl (fun K hK => ?_)
            go_simp
            replace hgr := hgr.out
            replace hblk := hblk.out
            (try (refine hK _ _ ?_; clear hK K))
            unfold WithRI
            refine ⟨_, _, _, _, _, _, _, _, rfl, ?_⟩
            simp only [Nat.reduceBEq, Bool.false_or, Bool.true_or, beq_self_eq_true, forall_const]
            exact ⟨below_grow fb hgr (fun k hk => by cases hk; exact hg),
              (by first | exact f0 | (intros; trivial)),
              (by first | exact f1 | (intros; trivial)),
              (by first | exact f3 | (intros; trivial)),
              (by first | exact f4 | (intros; trivial)),
              fc5,
              (by first | exact (by intros; trivial) | (intros; trivial)),
              fc6,
              ⟨e6, e7⟩,
              fun h2 h5n => (fra h2 h5n).kept hgr (apt_some (hna h2 h5n)),
              fun h5 => (frf h5).kept hgr (apt_some (hnf h5)),
              fun _ => ⟨g, fun i => if i = 0 then (.int .i64 c.first) else if i = 1 then (.slice a30 c.free.length p30) else (.slice none 0 0), rfl, hg, hblk, ⟨rfl, rfl, rfl⟩, hna, hnf⟩⟩
        case hend =>
          intro d a x hI hall
          unfold WithRI at hI
          obtain ⟨u7, u25, u26, u27, u28, u29, u30, u31, rfl, fb, f0, f1, f3, f4, fc5, f6, fc6, fc8, fra, frf, fx⟩ := hI
          have hl0 := hall 0 (show 0 < 9 by omega)
          have hl1 := hall 1 (show 1 < 9 by omega)
          have hl2 := hall 2 (show 2 < 9 by omega)
          have hl3 := hall 3 (show 3 < 9 by omega)
          have hl4 := hall 4 (show 4 < 9 by omega)
          have hl5 := hall 5 (show 5 < 9 by omega)
          have hl6 := hall 6 (show 6 < 9 by omega)
          have hl7 := hall 7 (show 7 < 9 by omega)
          have hl8 := hall 8 (show 8 < 9 by omega)
          have g0 := f0 hl0
          subst g0
          have g1 := f1 hl1
          subst g1
          have g3 := f3 hl3
          subst g3
          have g4 := f4 hl4
          subst g4
          have g6 := f6 hl6
          subst g6
          have orf := frf hl5
          obtain ⟨g, cs, e7, hg, hx, h13, hna, hnf⟩ := fx hl7
          obtain ⟨ex0, ex1, ex2⟩ := h13 hl8
          rw [ex0, ex1, ex2] at hx
          subst e7
          replace hnf := hnf hl5
          clear fx h13 ex0 ex1 ex2
          clear hna
          clear f0 f1 f3 f4 fc5 f6 fc6 fc8 fra frf
          clear hall hl0 hl1 hl2 hl3 hl4 hl5 hl6 hl7 hl8
          obtain ⟨a30, p30, q30⟩ := own_slice orf
          subst q30
          have HO : Hid (OutAt c w2 g (.slice a30 c.free.length p30) (.slice none 0 0) [] x) := ⟨hg, fb, hx, orf, World.ownsRow_nil _ _ _ _, hnf, by simp [Value.ownBlock], fun k _ e => by simp [Value.ownBlock] at e⟩
          clear hx orf
          replace c2 := Lib.hid c2
          replace d0 := Lib.hid d0
          replace d1 := Lib.hid d1
          clear c0 c1
          have hxx : w2.heap.size ≤ x.heap.size := fb.size
          go_wp2
          go_loopw [8, 9] (fun pl i wr => ∃ (k : Nat) (b : Bool) (sv : Value), k ≤ c.still.length ∧ pl = .bool b ∧ i = .int .i64 k ∧ Hid (WRel c s w2 g (.slice a30 c.free.length p30) k b sv wr)) (fun _ i _ => c.still.length - (intOf i).toNat)
          case atStart => exact ⟨0, false, _, Nat.zero_le _, rfl, rfl, [], fun i hi => absurd hi (Nat.not_lt_zero i), rfl, Nat.zero_le _, fun _ => Nat.le_refl _, HO.out⟩
          case round =>
            clear HO
            obtain ⟨k, pb, sv, hk, rfl, rfl, hr⟩ := hrel
            obtain ⟨acc, hno, hins, hal, hal2, hO⟩ := hr.out
            have HO := Lib.hid hO
            have HNo := Lib.hid hno
            have HIns := Lib.hid hins
            have HAl := Lib.hid hal2
            have hBwr : Below w2.heap.size w2 wr := hO.2.1
            clear hr hO hno hins hal2
            by_cases hlt : k < c.still.length
            · have hgk : decide ((k : Int) < (c.still.length : Int)) = true := by simpa using hlt
              obtain ⟨sa', sc', e1, _, _, hcell0⟩ := HP2.out
              simp only [Value.slice.injEq] at e1
              obtain ⟨e1, _, e2⟩ := e1
              subst e1 e2
              obtain ⟨b, o, e3, hbk, hcell1, hcell2⟩ := hcell0 k hlt
              subst e3
              have HC1 := Lib.hid hcell1
              have HC2 := Lib.hid hcell2
              clear hcell0 hcell1 hcell2
              have A0wr : wr.cell? ⟨w.heap.size, 2, none⟩ = some (.slice (some ⟨b, o, none⟩) c.still.length sc) := (hBwr.cell (p := ⟨w.heap.size, 2, none⟩) (by dsimp only; omega)).trans c2.out
              have A1wr : wr.cell? ⟨b, o + k * 2, none⟩ = some (.int .i64 (gi c.still (0, 0) k).1) := (hBwr.cell (p := ⟨b, o + k * 2, none⟩) hbk).trans HC1.out
              have A2wr : wr.cell? ⟨b, o + k * 2 + 1, none⟩ = some (.int .i64 (gi c.still (0, 0) k).2) := (hBwr.cell (p := ⟨b, o + k * 2 + 1, none⟩) hbk).trans HC2.out
              have A3wr : wr.cell? ⟨w.heap.size + 1, 0, none⟩ = some (.int .i64 s.1) := (hBwr.cell (p := ⟨w.heap.size + 1, 0, none⟩) (by dsimp only; omega)).trans d0.out
              have A4wr : wr.cell? ⟨w.heap.size + 1, 1, none⟩ = some (.int .i64 s.2) := (hBwr.cell (p := ⟨w.heap.size + 1, 1, none⟩) (by dsimp only; omega)).trans d1.out
              have HL : Hid (lapB (gi c.still (0, 0) k) s = (decide ((gi c.still (0, 0) k).1 ≤ s.2) && decide (s.1 ≤ (gi c.still (0, 0) k).2))) := rfl
              have HDr := Lib.hid (drop_gi hlt)
              by_cases hlap : lapB (gi c.still (0, 0) k) s = true
              · have hl := hlap
                rw [HL.out, Bool.and_eq_true] at hl
                obtain ⟨hA, hB⟩ := hl
                have HE : Hid (withE c s = 6) := by
                  unfold Hid; rw [HE0.out, if_pos Hz.out, if_neg (by omega), if_pos hs, if_pos (List.any_eq_true.2 ⟨gi c.still (0, 0) k, by rw [gi_lt hlt]; exact List.getElem_mem hlt, hlap⟩)]
                have Hr0 : ∀ o, w2.cell? ⟨w.heap.size + 2, o, none⟩ = w1.cell? ⟨w.heap.size + 2, o, none⟩ := hx22
                clear hlap
                go_wp2
                have q0 := fun d os => cell_regrown A0wr d os
                have q1 := fun d os => cell_regrown A1wr d os
                have q2 := fun d os => cell_regrown A2wr d os
                have q3 := fun d os => cell_regrown A3wr d os
                have q4 := fun d os => cell_regrown A4wr d os
                refine region_q mixed (by kernel_rfl) ?_
                repeat (go_big_quiet_step (fail))
                refine wpQuiet_nil ?_
                intro wq hbwq
                clear q0 q1 q2 q3 q4 A0wr A1wr A2wr A3wr A4wr
                have hBwq : Below w2.heap.size w2 wq := below_tail hbwq hBwr
                have A0wq : wq.cell? ⟨w.heap.size, 2, none⟩ = some (.slice (some ⟨b, o, none⟩) c.still.length sc) := (hBwq.cell (p := ⟨w.heap.size, 2, none⟩) (by dsimp only; omega)).trans c2.out
                have A1wq : wq.cell? ⟨b, o + k * 2, none⟩ = some (.int .i64 (gi c.still (0, 0) k).1) := (hBwq.cell (p := ⟨b, o + k * 2, none⟩) hbk).trans HC1.out
                have A2wq : wq.cell? ⟨b, o + k * 2 + 1, none⟩ = some (.int .i64 (gi c.still (0, 0) k).2) := (hBwq.cell (p := ⟨b, o + k * 2 + 1, none⟩) hbk).trans HC2.out
                have A3wq : wq.cell? ⟨w.heap.size + 1, 0, none⟩ = some (.int .i64 s.1) := (hBwq.cell (p := ⟨w.heap.size + 1, 0, none⟩) (by dsimp only; omega)).trans d0.out
                have A4wq : wq.cell? ⟨w.heap.size + 1, 1, none⟩ = some (.int .i64 s.2) := (hBwq.cell (p := ⟨w.heap.size + 1, 1, none⟩) (by dsimp only; omega)).trans d1.out
                have r5 : ∀ o, wq.cell? ⟨w.heap.size + 2, o, none⟩ = w2.cell? ⟨w.heap.size + 2, o, none⟩ := fun o => hBwq.cell (p := ⟨w.heap.size + 2, o, none⟩) (by dsimp only; omega)
                have r6 : ∀ o, wq.frozen? ⟨w.heap.size + 2, o, none⟩ = w2.frozen? ⟨w.heap.size + 2, o, none⟩ := fun o => hBwq.frozen (p := ⟨w.heap.size + 2, o, none⟩) (by dsimp only; omega)
                go_wp2
                (try simp only [Exit.inBlock, Exit.then])
                refine bodyPost_ret (v := .tuple #[.agg #[.int .i64 0, .slice none 0 0, .slice none 0 0], .int .i64 (withE c s)]) (by rw [HE.out]; simp [results, Try.f50, go_sem, r5, hx22, hx12]) rfl ?_
                exact ⟨_, _, by rw [withR_bad (by rw [HE.out]; decide)], by rw [withR_bad (by rw [HE.out]; decide)]; exact World.ownsRow_nil _ _ _ _, by rw [withR_bad (by rw [HE.out]; decide)]; exact World.ownsRow_nil _ _ _ _, .inl rfl, by (repeat' (first | exact Below.refl _ _ | assumption | refine below_new ?_ _ | refine below_draw ?_ | refine below_tail (by assumption) ?_ | refine below_set ?_ (by first | omega | (simp <;> omega)) _))⟩
              · have hlap0 : lapB (gi c.still (0, 0) k) s = false := by simpa using hlap
                have HNo1 : Hid (∀ i, i < k + 1 → lapB (gi c.still (0, 0) i) s = false) := fun i hi => by
                  rcases Nat.lt_or_eq_of_le (Nat.le_of_lt_succ hi) with h | h
                  · exact HNo.out i h
                  · rw [h]; exact hlap0
                have hl := hlap0
                rw [HL.out, Bool.and_eq_false_iff] at hl
                have hcase : decide ((gi c.still (0, 0) k).1 ≤ s.2) = false ∨ (decide ((gi c.still (0, 0) k).1 ≤ s.2) = true ∧ decide (s.1 ≤ (gi c.still (0, 0) k).2) = false) := by
                  cases hA : decide ((gi c.still (0, 0) k).1 ≤ s.2)
                  · exact .inl rfl
                  · rw [hA] at hl; exact .inr ⟨rfl, hl.resolve_left (by simp)⟩
                clear hl hlap hlap0
                rcases hcase with hA | ⟨hA, hB⟩
                all_goals
                  cases pb
                  · by_cases hlt2 : s.1 < (gi c.still (0, 0) k).1
                    · have hI : Hid ((acc ++ [s]) ++ [gi c.still (0, 0) k] ++ c.still.drop (k + 1) = insF c.still s) := by
                        have h0 := HIns.out
                        rw [if_neg (by simp), HDr.out, insF_yes hlt2] at h0
                        unfold Hid; simpa using h0
                      have hle := HAl.out rfl
                      have hlt3 : decide (s.1 < (gi c.still (0, 0) k).1) = true := decide_eq_true hlt2
                      clear hlt2
                      go_wp2
                      have q0 := fun d os => cell_regrown A0wr d os
                      have q1 := fun d os => cell_regrown A1wr d os
                      have q2 := fun d os => cell_regrown A2wr d os
                      have q3 := fun d os => cell_regrown A3wr d os
                      have q4 := fun d os => cell_regrown A4wr d os
                      refine region_q mixed (by kernel_rfl) ?_
                      repeat (go_big_quiet_step (fail))
                      refine wpQuiet_nil ?_
                      intro wq hbwq
                      clear q0 q1 q2 q3 q4 A0wr A1wr A2wr A3wr A4wr
                      have hBwq : Below w2.heap.size w2 wq := below_tail hbwq hBwr
                      have A0wq : wq.cell? ⟨w.heap.size, 2, none⟩ = some (.slice (some ⟨b, o, none⟩) c.still.length sc) := (hBwq.cell (p := ⟨w.heap.size, 2, none⟩) (by dsimp only; omega)).trans c2.out
                      have A1wq : wq.cell? ⟨b, o + k * 2, none⟩ = some (.int .i64 (gi c.still (0, 0) k).1) := (hBwq.cell (p := ⟨b, o + k * 2, none⟩) hbk).trans HC1.out
                      have A2wq : wq.cell? ⟨b, o + k * 2 + 1, none⟩ = some (.int .i64 (gi c.still (0, 0) k).2) := (hBwq.cell (p := ⟨b, o + k * 2 + 1, none⟩) hbk).trans HC2.out
                      have A3wq : wq.cell? ⟨w.heap.size + 1, 0, none⟩ = some (.int .i64 s.1) := (hBwq.cell (p := ⟨w.heap.size + 1, 0, none⟩) (by dsimp only; omega)).trans d0.out
                      have A4wq : wq.cell? ⟨w.heap.size + 1, 1, none⟩ = some (.int .i64 s.2) := (hBwq.cell (p := ⟨w.heap.size + 1, 1, none⟩) (by dsimp only; omega)).trans d1.out
                      go_wp2
                      have q0 := fun d os => cell_regrown A0wq d os
                      have q1 := fun d os => cell_regrown A1wq d os
                      have q2 := fun d os => cell_regrown A2wq d os
                      have q3 := fun d os => cell_regrown A3wq d os
                      have q4 := fun d os => cell_regrown A4wq d os
                      refine region_q mixed (by kernel_rfl) ?_
                      repeat (go_big_quiet_step (fail))
                      refine wpQuiet_nil ?_
                      intro wq2 hbwq2
                      clear q0 q1 q2 q3 q4 A0wq A1wq A2wq A3wq A4wq
                      have hBwq2 : Below w2.heap.size w2 wq2 := below_tail hbwq2 hBwq
                      have A0wq2 : wq2.cell? ⟨w.heap.size, 2, none⟩ = some (.slice (some ⟨b, o, none⟩) c.still.length sc) := (hBwq2.cell (p := ⟨w.heap.size, 2, none⟩) (by dsimp only; omega)).trans c2.out
                      have A1wq2 : wq2.cell? ⟨b, o + k * 2, none⟩ = some (.int .i64 (gi c.still (0, 0) k).1) := (hBwq2.cell (p := ⟨b, o + k * 2, none⟩) hbk).trans HC1.out
                      have A2wq2 : wq2.cell? ⟨b, o + k * 2 + 1, none⟩ = some (.int .i64 (gi c.still (0, 0) k).2) := (hBwq2.cell (p := ⟨b, o + k * 2 + 1, none⟩) hbk).trans HC2.out
                      have A3wq2 : wq2.cell? ⟨w.heap.size + 1, 0, none⟩ = some (.int .i64 s.1) := (hBwq2.cell (p := ⟨w.heap.size + 1, 0, none⟩) (by dsimp only; omega)).trans d0.out
                      have A4wq2 : wq2.cell? ⟨w.heap.size + 1, 1, none⟩ = some (.int .i64 s.2) := (hBwq2.cell (p := ⟨w.heap.size + 1, 1, none⟩) (by dsimp only; omega)).trans d1.out
                      have hBwq2' := hBwq2
                      have HOq : Hid (OutAt c w2 g (.slice a30 c.free.length p30) sv acc wq2) := (HO.out.below hbwq).below hbwq2
                      clear HO
                      obtain ⟨ga, gp, es⟩ := own_slice HOq.out.2.2.2.2.1
                      subst es
                      obtain ⟨og, oB, ox, of4, os5, hnf, hns, hap⟩ := HOq.out
                      have k2 := cell_of_block ox 2
                      have l2 := frozen_of_block ox 2
                      simp at k2
                      have hgX : g < wq2.heap.size := (Array.getElem?_eq_some_iff.1 ox).1
                      have hnB : (Value.slice ga acc.length gp).ownBlock ≠ some w.heap.size := ne_old os5 (by omega)
                      have HOs := Lib.hid os5
                      clear ox of4 os5
                      obtain ⟨i0, hi0, hz0, hi1, hi2⟩ := info_parts infoSpan
                      have hwX : w2.heap.size ≤ wq2.heap.size := hBwq2.size
                      go_wp2_with (at_builtin; refine wpList_append_any (by rfl) (.tmp 74) (.tmp 76) _ (by rfl) w2.heap.size 50 i0 (.agg #[.int .i64 0, .int .i64 0]) 2 16 Try.underlying23 hi0 hz0 hi1 hi2 (by rfl) (by decide) _ acc.length (cells2 acc) (by rfl) (own_below HOs.out (by (repeat' (first | exact Below.refl _ _ | assumption | refine below_new ?_ _ | refine below_draw ?_ | refine below_tail (by assumption) ?_ | refine below_set ?_ (by first | omega | (simp <;> omega)) _)))) _ 1 (cells2 [s]) (by rfl) (pairs_src (l := [(s.1, s.2)]) (pairs1 (w := wq2) (by simp))) (by unfold maxLen; omega) (by omega) (by simp; omega) ?_; intro v6 w6 ho6 hg6 hat6; obtain ⟨a6, p6, e6⟩ := own_slice ho6; subst e6; have k6 := far5 k2 (show Below wq2.heap.size wq2 _ by (repeat' (first | exact Below.refl _ _ | assumption | refine below_new ?_ _ | refine below_draw ?_ | refine below_tail (by assumption) ?_ | refine below_set ?_ (by first | omega | (simp <;> omega)) _))) hg6 hns; have l6 := far5f hgX l2 (show Below wq2.heap.size wq2 _ by (repeat' (first | exact Below.refl _ _ | assumption | refine below_new ?_ _ | refine below_draw ?_ | refine below_tail (by assumption) ?_ | refine below_set ?_ (by first | omega | (simp <;> omega)) _))) hg6 hns)
                      have HO6 := Lib.hid (HOq.out.app (by (repeat' (first | exact Below.refl _ _ | assumption | refine below_new ?_ _ | refine below_draw ?_ | refine below_tail (by assumption) ?_ | refine below_set ?_ (by first | omega | (simp <;> omega)) _))) ho6 hg6 hat6)
                      obtain ⟨X, hX⟩ : ∃ X, X = w6.setCell ⟨g, 2, none⟩ (.slice a6 (acc.length + 1) p6) := ⟨_, rfl⟩
                      have HO7 : Hid (OutAt c w2 g (.slice a30 c.free.length p30) (.slice a6 (acc.length + 1) p6) (acc ++ [s]) X) := by rw [hX]; exact HO6.out
                      rw [← hX]
                      clear HO6 hX hg6 hat6 ho6 k6 l6 HOq HOs k2 l2
                      have hla : (acc ++ [s]).length = acc.length + 1 := by simp
                      generalize acc ++ [s] = acc1 at hla HO7 hI
                      rw [← hla] at HO7 ⊢
                      have hBX : Below w2.heap.size w2 X := HO7.out.2.1
                      have hle1 : acc1.length ≤ k + 1 := by omega
                      clear hla hle
                      have A0X : X.cell? ⟨w.heap.size, 2, none⟩ = some (.slice (some ⟨b, o, none⟩) c.still.length sc) := (hBX.cell (p := ⟨w.heap.size, 2, none⟩) (by dsimp only; omega)).trans c2.out
                      have A1X : X.cell? ⟨b, o + k * 2, none⟩ = some (.int .i64 (gi c.still (0, 0) k).1) := (hBX.cell (p := ⟨b, o + k * 2, none⟩) hbk).trans HC1.out
                      have A2X : X.cell? ⟨b, o + k * 2 + 1, none⟩ = some (.int .i64 (gi c.still (0, 0) k).2) := (hBX.cell (p := ⟨b, o + k * 2 + 1, none⟩) hbk).trans HC2.out
                      have A3X : X.cell? ⟨w.heap.size + 1, 0, none⟩ = some (.int .i64 s.1) := (hBX.cell (p := ⟨w.heap.size + 1, 0, none⟩) (by dsimp only; omega)).trans d0.out
                      have A4X : X.cell? ⟨w.heap.size + 1, 1, none⟩ = some (.int .i64 s.2) := (hBX.cell (p := ⟨w.heap.size + 1, 1, none⟩) (by dsimp only; omega)).trans d1.out
                      obtain ⟨og, oB, ox, of4, os5, hnf, hns, hap⟩ := HO7.out
                      have k2 := cell_of_block ox 2
                      have l2 := frozen_of_block ox 2
                      simp at k2
                      have hgX : g < X.heap.size := (Array.getElem?_eq_some_iff.1 ox).1
                      have hnB : (Value.slice a6 acc1.length p6).ownBlock ≠ some w.heap.size := ne_old os5 (by omega)
                      have HOs := Lib.hid os5
                      clear ox of4 os5
                      have hnb : (Value.slice a6 acc1.length p6).ownBlock ≠ some b := ne_old HOs.out hbk
                      obtain ⟨i0, hi0, hz0, hi1, hi2⟩ := info_parts infoSpan
                      have hbX : b < X.heap.size := Nat.lt_of_lt_of_le hbk hBX.size
                      have hwX : w2.heap.size ≤ X.heap.size := hBX.size
                      clear A3X A4X
                      have hnn := World.new_ne X ⟨g, 2, none⟩ k2
                      have hn0 := World.new_ne X _ A0X
                      have hn1 := World.new_ne X _ A1X
                      have hn2 := World.new_ne X _ A2X
                      go_region_law
                        ((refine step_append_any (by rfl) _ _ _ (by rfl) w2.heap.size 50 i0 (.agg #[.int .i64 0, .int .i64 0]) 2 16 Try.underlying23 hi0 hz0 hi1 hi2 (by rfl) (by decide) (Value.slice a6 acc1.length p6) acc1.length (cells2 acc1) (by rfl) (own_below HOs.out (show Below X.heap.size X _ by (repeat' (first | exact Below.refl _ _ | assumption | refine below_new ?_ _ | refine below_draw ?_ | refine below_tail (by assumption) ?_ | refine below_set ?_ (by first | omega | (simp <;> omega)) _)))) _ 1 (cells2 [gi c.still (0, 0) k]) (by rfl) (pairs_src (l := [((gi c.still (0, 0) k).1, (gi c.still (0, 0) k).2)]) (pairs1 (by simp))) (by unfold maxLen; omega) (by omega) (by simp; omega) ?_; intro v5 w5 ho5 hg5 hat5; obtain ⟨a5, p5, e5⟩ := own_slice ho5; subst e5; have l5 := far5f hgX l2 (show Below X.heap.size X _ by (repeat' (first | exact Below.refl _ _ | assumption | refine below_new ?_ _ | refine below_draw ?_ | refine below_tail (by assumption) ?_ | refine below_set ?_ (by first | omega | (simp <;> omega)) _))) hg5 hns; have s5 := far5 k2 (show Below X.heap.size X _ by (repeat' (first | exact Below.refl _ _ | assumption | refine below_new ?_ _ | refine below_draw ?_ | refine below_tail (by assumption) ?_ | refine below_set ?_ (by first | omega | (simp <;> omega)) _))) hg5 hns))
                      all_goals
                        go_wp2
                        go_roundw
                        case rel => exact ⟨k + 1, true, _, by omega, rfl, by go_num, acc1 ++ [gi c.still (0, 0) k], HNo1.out, hI.out, by simp; omega, fun e => (by cases e), HO7.out.app (by (repeat' (first | exact Below.refl _ _ | assumption | refine below_new ?_ _ | refine below_draw ?_ | refine below_tail (by assumption) ?_ | refine below_set ?_ (by first | omega | (simp <;> omega)) _))) ho5 hg5 hat5⟩
                        case measure => simp [intOf]; omega
                    · have hI : Hid ((acc ++ [gi c.still (0, 0) k]) ++ insF (c.still.drop (k + 1)) s = insF c.still s) := by
                        have h0 := HIns.out
                        rw [if_neg (by simp), HDr.out, insF_no hlt2] at h0
                        unfold Hid; simpa using h0
                      have hle := HAl.out rfl
                      have hlt3 : decide (s.1 < (gi c.still (0, 0) k).1) = false := decide_eq_false hlt2
                      clear hlt2
                      go_wp2
                      have q0 := fun d os => cell_regrown A0wr d os
                      have q1 := fun d os => cell_regrown A1wr d os
                      have q2 := fun d os => cell_regrown A2wr d os
                      have q3 := fun d os => cell_regrown A3wr d os
                      have q4 := fun d os => cell_regrown A4wr d os
                      refine region_q mixed (by kernel_rfl) ?_
                      repeat (go_big_quiet_step (fail))
                      refine wpQuiet_nil ?_
                      intro wq hbwq
                      clear q0 q1 q2 q3 q4 A0wr A1wr A2wr A3wr A4wr
                      have hBwq : Below w2.heap.size w2 wq := below_tail hbwq hBwr
                      have A0wq : wq.cell? ⟨w.heap.size, 2, none⟩ = some (.slice (some ⟨b, o, none⟩) c.still.length sc) := (hBwq.cell (p := ⟨w.heap.size, 2, none⟩) (by dsimp only; omega)).trans c2.out
                      have A1wq : wq.cell? ⟨b, o + k * 2, none⟩ = some (.int .i64 (gi c.still (0, 0) k).1) := (hBwq.cell (p := ⟨b, o + k * 2, none⟩) hbk).trans HC1.out
                      have A2wq : wq.cell? ⟨b, o + k * 2 + 1, none⟩ = some (.int .i64 (gi c.still (0, 0) k).2) := (hBwq.cell (p := ⟨b, o + k * 2 + 1, none⟩) hbk).trans HC2.out
                      have A3wq : wq.cell? ⟨w.heap.size + 1, 0, none⟩ = some (.int .i64 s.1) := (hBwq.cell (p := ⟨w.heap.size + 1, 0, none⟩) (by dsimp only; omega)).trans d0.out
                      have A4wq : wq.cell? ⟨w.heap.size + 1, 1, none⟩ = some (.int .i64 s.2) := (hBwq.cell (p := ⟨w.heap.size + 1, 1, none⟩) (by dsimp only; omega)).trans d1.out
                      go_wp2
                      have q0 := fun d os => cell_regrown A0wq d os
                      have q1 := fun d os => cell_regrown A1wq d os
                      have q2 := fun d os => cell_regrown A2wq d os
                      have q3 := fun d os => cell_regrown A3wq d os
                      have q4 := fun d os => cell_regrown A4wq d os
                      refine region_q mixed (by kernel_rfl) ?_
                      repeat (go_big_quiet_step (fail))
                      refine wpQuiet_nil ?_
                      intro wq2 hbwq2
                      clear q0 q1 q2 q3 q4 A0wq A1wq A2wq A3wq A4wq
                      have hBwq2 : Below w2.heap.size w2 wq2 := below_tail hbwq2 hBwq
                      have A0wq2 : wq2.cell? ⟨w.heap.size, 2, none⟩ = some (.slice (some ⟨b, o, none⟩) c.still.length sc) := (hBwq2.cell (p := ⟨w.heap.size, 2, none⟩) (by dsimp only; omega)).trans c2.out
                      have A1wq2 : wq2.cell? ⟨b, o + k * 2, none⟩ = some (.int .i64 (gi c.still (0, 0) k).1) := (hBwq2.cell (p := ⟨b, o + k * 2, none⟩) hbk).trans HC1.out
                      have A2wq2 : wq2.cell? ⟨b, o + k * 2 + 1, none⟩ = some (.int .i64 (gi c.still (0, 0) k).2) := (hBwq2.cell (p := ⟨b, o + k * 2 + 1, none⟩) hbk).trans HC2.out
                      have A3wq2 : wq2.cell? ⟨w.heap.size + 1, 0, none⟩ = some (.int .i64 s.1) := (hBwq2.cell (p := ⟨w.heap.size + 1, 0, none⟩) (by dsimp only; omega)).trans d0.out
                      have A4wq2 : wq2.cell? ⟨w.heap.size + 1, 1, none⟩ = some (.int .i64 s.2) := (hBwq2.cell (p := ⟨w.heap.size + 1, 1, none⟩) (by dsimp only; omega)).trans d1.out
                      have hBwq2' := hBwq2
                      have HOq : Hid (OutAt c w2 g (.slice a30 c.free.length p30) sv acc wq2) := (HO.out.below hbwq).below hbwq2
                      clear HO
                      have HO7 := HOq
                      generalize acc = acc1 at *
                      go_wp2
                      obtain ⟨ga, gp, es⟩ := own_slice HO7.out.2.2.2.2.1
                      subst es
                      obtain ⟨og, oB, ox, of4, os5, hnf, hns, hap⟩ := HO7.out
                      have k2 := cell_of_block ox 2
                      have l2 := frozen_of_block ox 2
                      simp at k2
                      have hgX : g < wq2.heap.size := (Array.getElem?_eq_some_iff.1 ox).1
                      have hnB : (Value.slice ga acc1.length gp).ownBlock ≠ some w.heap.size := ne_old os5 (by omega)
                      have HOs := Lib.hid os5
                      clear ox of4 os5
                      have hnb : (Value.slice ga acc1.length gp).ownBlock ≠ some b := ne_old HOs.out hbk
                      obtain ⟨i0, hi0, hz0, hi1, hi2⟩ := info_parts infoSpan
                      have hbX : b < wq2.heap.size := Nat.lt_of_lt_of_le hbk hBwq2.size
                      have hwX : w2.heap.size ≤ wq2.heap.size := hBwq2.size
                      clear A3wq2 A4wq2
                      have hnn := World.new_ne wq2 ⟨g, 2, none⟩ k2
                      have hn0 := World.new_ne wq2 _ A0wq2
                      have hn1 := World.new_ne wq2 _ A1wq2
                      have hn2 := World.new_ne wq2 _ A2wq2
                      go_region_law
                        ((refine step_append_any (by rfl) _ _ _ (by rfl) w2.heap.size 50 i0 (.agg #[.int .i64 0, .int .i64 0]) 2 16 Try.underlying23 hi0 hz0 hi1 hi2 (by rfl) (by decide) (Value.slice ga acc1.length gp) acc1.length (cells2 acc1) (by rfl) (own_below HOs.out (show Below wq2.heap.size wq2 _ by (repeat' (first | exact Below.refl _ _ | assumption | refine below_new ?_ _ | refine below_draw ?_ | refine below_tail (by assumption) ?_ | refine below_set ?_ (by first | omega | (simp <;> omega)) _)))) _ 1 (cells2 [gi c.still (0, 0) k]) (by rfl) (pairs_src (l := [((gi c.still (0, 0) k).1, (gi c.still (0, 0) k).2)]) (pairs1 (by simp))) (by unfold maxLen; omega) (by omega) (by simp; omega) ?_; intro v5 w5 ho5 hg5 hat5; obtain ⟨a5, p5, e5⟩ := own_slice ho5; subst e5; have l5 := far5f hgX l2 (show Below wq2.heap.size wq2 _ by (repeat' (first | exact Below.refl _ _ | assumption | refine below_new ?_ _ | refine below_draw ?_ | refine below_tail (by assumption) ?_ | refine below_set ?_ (by first | omega | (simp <;> omega)) _))) hg5 hns; have s5 := far5 k2 (show Below wq2.heap.size wq2 _ by (repeat' (first | exact Below.refl _ _ | assumption | refine below_new ?_ _ | refine below_draw ?_ | refine below_tail (by assumption) ?_ | refine below_set ?_ (by first | omega | (simp <;> omega)) _))) hg5 hns))
                      all_goals
                        go_wp2
                        go_roundw
                        case rel => exact ⟨k + 1, false, _, by omega, rfl, by go_num, acc1 ++ [gi c.still (0, 0) k], HNo1.out, hI.out, by simp; omega, fun _ => by simp; omega, HO7.out.app (by (repeat' (first | exact Below.refl _ _ | assumption | refine below_new ?_ _ | refine below_draw ?_ | refine below_tail (by assumption) ?_ | refine below_set ?_ (by first | omega | (simp <;> omega)) _))) ho5 hg5 hat5⟩
                        case measure => simp [intOf]; omega
                  · have hI : Hid ((acc ++ [gi c.still (0, 0) k]) ++ c.still.drop (k + 1) = insF c.still s) := by
                      have h0 := HIns.out
                      rw [if_pos rfl, HDr.out] at h0
                      unfold Hid; simpa using h0
                    go_wp2
                    have q0 := fun d os => cell_regrown A0wr d os
                    have q1 := fun d os => cell_regrown A1wr d os
                    have q2 := fun d os => cell_regrown A2wr d os
                    have q3 := fun d os => cell_regrown A3wr d os
                    have q4 := fun d os => cell_regrown A4wr d os
                    refine region_q mixed (by kernel_rfl) ?_
                    repeat (go_big_quiet_step (fail))
                    refine wpQuiet_nil ?_
                    intro wq hbwq
                    clear q0 q1 q2 q3 q4 A0wr A1wr A2wr A3wr A4wr
                    have hBwq : Below w2.heap.size w2 wq := below_tail hbwq hBwr
                    have A0wq : wq.cell? ⟨w.heap.size, 2, none⟩ = some (.slice (some ⟨b, o, none⟩) c.still.length sc) := (hBwq.cell (p := ⟨w.heap.size, 2, none⟩) (by dsimp only; omega)).trans c2.out
                    have A1wq : wq.cell? ⟨b, o + k * 2, none⟩ = some (.int .i64 (gi c.still (0, 0) k).1) := (hBwq.cell (p := ⟨b, o + k * 2, none⟩) hbk).trans HC1.out
                    have A2wq : wq.cell? ⟨b, o + k * 2 + 1, none⟩ = some (.int .i64 (gi c.still (0, 0) k).2) := (hBwq.cell (p := ⟨b, o + k * 2 + 1, none⟩) hbk).trans HC2.out
                    have A3wq : wq.cell? ⟨w.heap.size + 1, 0, none⟩ = some (.int .i64 s.1) := (hBwq.cell (p := ⟨w.heap.size + 1, 0, none⟩) (by dsimp only; omega)).trans d0.out
                    have A4wq : wq.cell? ⟨w.heap.size + 1, 1, none⟩ = some (.int .i64 s.2) := (hBwq.cell (p := ⟨w.heap.size + 1, 1, none⟩) (by dsimp only; omega)).trans d1.out
                    go_wp2
                    have q0 := fun d os => cell_regrown A0wq d os
                    have q1 := fun d os => cell_regrown A1wq d os
                    have q2 := fun d os => cell_regrown A2wq d os
                    have q3 := fun d os => cell_regrown A3wq d os
                    have q4 := fun d os => cell_regrown A4wq d os
                    refine region_q mixed (by kernel_rfl) ?_
                    repeat (go_big_quiet_step (fail))
                    refine wpQuiet_nil ?_
                    intro wq2 hbwq2
                    clear q0 q1 q2 q3 q4 A0wq A1wq A2wq A3wq A4wq
                    have hBwq2 : Below w2.heap.size w2 wq2 := below_tail hbwq2 hBwq
                    have A0wq2 : wq2.cell? ⟨w.heap.size, 2, none⟩ = some (.slice (some ⟨b, o, none⟩) c.still.length sc) := (hBwq2.cell (p := ⟨w.heap.size, 2, none⟩) (by dsimp only; omega)).trans c2.out
                    have A1wq2 : wq2.cell? ⟨b, o + k * 2, none⟩ = some (.int .i64 (gi c.still (0, 0) k).1) := (hBwq2.cell (p := ⟨b, o + k * 2, none⟩) hbk).trans HC1.out
                    have A2wq2 : wq2.cell? ⟨b, o + k * 2 + 1, none⟩ = some (.int .i64 (gi c.still (0, 0) k).2) := (hBwq2.cell (p := ⟨b, o + k * 2 + 1, none⟩) hbk).trans HC2.out
                    have A3wq2 : wq2.cell? ⟨w.heap.size + 1, 0, none⟩ = some (.int .i64 s.1) := (hBwq2.cell (p := ⟨w.heap.size + 1, 0, none⟩) (by dsimp only; omega)).trans d0.out
                    have A4wq2 : wq2.cell? ⟨w.heap.size + 1, 1, none⟩ = some (.int .i64 s.2) := (hBwq2.cell (p := ⟨w.heap.size + 1, 1, none⟩) (by dsimp only; omega)).trans d1.out
                    have hBwq2' := hBwq2
                    have HOq : Hid (OutAt c w2 g (.slice a30 c.free.length p30) sv acc wq2) := (HO.out.below hbwq).below hbwq2
                    clear HO
                    have HO7 := HOq
                    generalize acc = acc1 at *
                    go_wp2
                    obtain ⟨ga, gp, es⟩ := own_slice HO7.out.2.2.2.2.1
                    subst es
                    obtain ⟨og, oB, ox, of4, os5, hnf, hns, hap⟩ := HO7.out
                    have k2 := cell_of_block ox 2
                    have l2 := frozen_of_block ox 2
                    simp at k2
                    have hgX : g < wq2.heap.size := (Array.getElem?_eq_some_iff.1 ox).1
                    have hnB : (Value.slice ga acc1.length gp).ownBlock ≠ some w.heap.size := ne_old os5 (by omega)
                    have HOs := Lib.hid os5
                    clear ox of4 os5
                    have hnb : (Value.slice ga acc1.length gp).ownBlock ≠ some b := ne_old HOs.out hbk
                    obtain ⟨i0, hi0, hz0, hi1, hi2⟩ := info_parts infoSpan
                    have hbX : b < wq2.heap.size := Nat.lt_of_lt_of_le hbk hBwq2.size
                    have hwX : w2.heap.size ≤ wq2.heap.size := hBwq2.size
                    clear A3wq2 A4wq2
                    have hnn := World.new_ne wq2 ⟨g, 2, none⟩ k2
                    have hn0 := World.new_ne wq2 _ A0wq2
                    have hn1 := World.new_ne wq2 _ A1wq2
                    have hn2 := World.new_ne wq2 _ A2wq2
                    go_region_law
                      ((refine step_append_any (by rfl) _ _ _ (by rfl) w2.heap.size 50 i0 (.agg #[.int .i64 0, .int .i64 0]) 2 16 Try.underlying23 hi0 hz0 hi1 hi2 (by rfl) (by decide) (Value.slice ga acc1.length gp) acc1.length (cells2 acc1) (by rfl) (own_below HOs.out (show Below wq2.heap.size wq2 _ by (repeat' (first | exact Below.refl _ _ | assumption | refine below_new ?_ _ | refine below_draw ?_ | refine below_tail (by assumption) ?_ | refine below_set ?_ (by first | omega | (simp <;> omega)) _)))) _ 1 (cells2 [gi c.still (0, 0) k]) (by rfl) (pairs_src (l := [((gi c.still (0, 0) k).1, (gi c.still (0, 0) k).2)]) (pairs1 (by simp))) (by unfold maxLen; omega) (by omega) (by simp; omega) ?_; intro v5 w5 ho5 hg5 hat5; obtain ⟨a5, p5, e5⟩ := own_slice ho5; subst e5; have l5 := far5f hgX l2 (show Below wq2.heap.size wq2 _ by (repeat' (first | exact Below.refl _ _ | assumption | refine below_new ?_ _ | refine below_draw ?_ | refine below_tail (by assumption) ?_ | refine below_set ?_ (by first | omega | (simp <;> omega)) _))) hg5 hns; have s5 := far5 k2 (show Below wq2.heap.size wq2 _ by (repeat' (first | exact Below.refl _ _ | assumption | refine below_new ?_ _ | refine below_draw ?_ | refine below_tail (by assumption) ?_ | refine below_set ?_ (by first | omega | (simp <;> omega)) _))) hg5 hns))
                    all_goals
                      go_wp2
                      go_roundw
                      case rel => exact ⟨k + 1, true, _, by omega, rfl, by go_num, acc1 ++ [gi c.still (0, 0) k], HNo1.out, hI.out, by simp; omega, fun e => (by cases e), HO7.out.app (by (repeat' (first | exact Below.refl _ _ | assumption | refine below_new ?_ _ | refine below_draw ?_ | refine below_tail (by assumption) ?_ | refine below_set ?_ (by first | omega | (simp <;> omega)) _))) ho5 hg5 hat5⟩
                      case measure => simp [intOf]; omega
            · have hgk : decide ((k : Int) < (c.still.length : Int)) = false := by simpa using hlt
              have hkn : k = c.still.length := by omega
              have hnolap : ∀ a ∈ c.still, lapB a s = false := fun a ha => by
                obtain ⟨i, hi, rfl⟩ := List.getElem_of_mem ha
                have := HNo.out i (by omega)
                rwa [gi_lt hi] at this
              have HE : Hid (withE c s = 0) := by
                unfold Hid; rw [HE0.out, if_pos Hz.out, if_neg (by omega), if_pos hs, if_neg]
                intro h
                obtain ⟨a, ha, hq⟩ := List.any_eq_true.1 h
                rw [hnolap a ha] at hq; cases hq
              have hR : Hid (withR c s = withC c s) := by unfold Hid withR; rw [if_pos HE.out]
              have HIns2 : Hid (acc ++ (if pb = true then [] else [s]) = insF c.still s) := by
                have h0 := HIns.out
                rw [hkn, List.drop_length] at h0
                exact h0
              have hle : acc.length ≤ 5 := by omega
              have hle2 : pb = false → acc.length ≤ 4 := fun e => by have := HAl.out e; omega
              clear hnolap hkn
              have A0wr : wr.cell? ⟨w.heap.size, 2, none⟩ = some (.slice sa c.still.length sc) := (hBwr.cell (p := ⟨w.heap.size, 2, none⟩) (by dsimp only; omega)).trans c2.out
              cases pb
              · have hI : Hid (acc ++ [s] = insF c.still s) := HIns2.out
                have hle3 := hle2 rfl
                clear hle2
                obtain ⟨ga, gp, es⟩ := own_slice HO.out.2.2.2.2.1
                subst es
                obtain ⟨og, oB, ox, of4, os5, hnf, hns, hap⟩ := HO.out
                have k2 := cell_of_block ox 2
                have l2 := frozen_of_block ox 2
                simp at k2
                have hgX : g < wr.heap.size := (Array.getElem?_eq_some_iff.1 ox).1
                have hnB : (Value.slice ga acc.length gp).ownBlock ≠ some w.heap.size := ne_old os5 (by omega)
                have HOs := Lib.hid os5
                clear ox of4 os5
                obtain ⟨i0, hi0, hz0, hi1, hi2⟩ := info_parts infoSpan
                have hwX : w2.heap.size ≤ wr.heap.size := hBwr.size
                have A3wr : wr.cell? ⟨w.heap.size + 1, 0, none⟩ = some (.int .i64 s.1) := (hBwr.cell (p := ⟨w.heap.size + 1, 0, none⟩) (by dsimp only; omega)).trans d0.out
                have A4wr : wr.cell? ⟨w.heap.size + 1, 1, none⟩ = some (.int .i64 s.2) := (hBwr.cell (p := ⟨w.heap.size + 1, 1, none⟩) (by dsimp only; omega)).trans d1.out
                go_upto_region 21 with (at_builtin; refine wpList_append_any (by rfl) (.tmp 92) (.tmp 94) _ (by rfl) w2.heap.size 50 i0 (.agg #[.int .i64 0, .int .i64 0]) 2 16 Try.underlying23 hi0 hz0 hi1 hi2 (by rfl) (by decide) _ acc.length (cells2 acc) (by rfl) (own_below HOs.out (by (repeat' (first | exact Below.refl _ _ | assumption | refine below_new ?_ _ | refine below_draw ?_ | refine below_tail (by assumption) ?_ | refine below_set ?_ (by first | omega | (simp <;> omega)) _)))) _ 1 (cells2 [s]) (by rfl) (pairs_src (l := [(s.1, s.2)]) (pairs1 (w := wr) (by simp))) (by unfold maxLen; omega) (by omega) (by simp; omega) ?_; intro v6 w6 ho6 hg6 hat6; obtain ⟨a6, p6, e6⟩ := own_slice ho6; subst e6; have k6 := far5 k2 (show Below wr.heap.size wr _ by (repeat' (first | exact Below.refl _ _ | assumption | refine below_new ?_ _ | refine below_draw ?_ | refine below_tail (by assumption) ?_ | refine below_set ?_ (by first | omega | (simp <;> omega)) _))) hg6 hns; have l6 := far5f hgX l2 (show Below wr.heap.size wr _ by (repeat' (first | exact Below.refl _ _ | assumption | refine below_new ?_ _ | refine below_draw ?_ | refine below_tail (by assumption) ?_ | refine below_set ?_ (by first | omega | (simp <;> omega)) _))) hg6 hns)
                have HO6 := Lib.hid (HO.out.app (by (repeat' (first | exact Below.refl _ _ | assumption | refine below_new ?_ _ | refine below_draw ?_ | refine below_tail (by assumption) ?_ | refine below_set ?_ (by first | omega | (simp <;> omega)) _))) ho6 hg6 hat6)
                obtain ⟨X, hX⟩ : ∃ X, X = w6.setCell ⟨g, 2, none⟩ (.slice a6 (acc.length + 1) p6) := ⟨_, rfl⟩
                have HO7 : Hid (OutAt c w2 g (.slice a30 c.free.length p30) (.slice a6 (acc.length + 1) p6) (acc ++ [s]) X) := by rw [hX]; exact HO6.out
                rw [← hX]
                clear HO6 hX hg6 hat6 ho6 k6 l6 HO HOs k2 l2
                have hla : (acc ++ [s]).length = acc.length + 1 := by simp
                rw [← hla] at HO7 ⊢
                rw [hI.out] at HO7 ⊢
                clear hla
                have HV := Lib.hid HO7.out
                obtain ⟨og, oB, ox, of4, os5, hnf, hns, hap⟩ := HO7.out
                have k0 := cell_of_block ox 0
                have k1 := cell_of_block ox 1
                have k2 := cell_of_block ox 2
                simp at k0 k1 k2
                have r5c : ∀ o, X.cell? ⟨w.heap.size + 2, o, none⟩ = w2.cell? ⟨w.heap.size + 2, o, none⟩ := fun o => oB.cell (p := ⟨w.heap.size + 2, o, none⟩) (by dsimp only; omega)
                have r5f : ∀ o, X.frozen? ⟨w.heap.size + 2, o, none⟩ = w2.frozen? ⟨w.heap.size + 2, o, none⟩ := fun o => oB.frozen (p := ⟨w.heap.size + 2, o, none⟩) (by dsimp only; omega)
                have hne4 : (Value.slice a30 c.free.length p30).ownBlock ≠ some (w.heap.size + 2) := ne_old of4 (by omega)
                have hne5 := ne_old os5 (show w.heap.size + 2 < w2.heap.size by omega)
                have HF4 := Lib.hid of4
                have HS5 := Lib.hid os5
                clear of4 os5 ox
                go_wp2
                refine bodyPost_ret (v := .tuple #[.agg #[.int .i64 c.first, .slice a30 c.free.length p30, .slice a6 (insF c.still s).length p6], .int .i64 0]) (by simp [results, Try.f50, go_sem, r5c, hx22, hx12]) rfl ?_
                exact ⟨_, _, by rw [hR.out, HE.out]; rfl, by rw [hR.out]; exact own_set3 (own_base HF4.out hw2.size) hne4, by rw [hR.out]; exact own_set3 (own_base HS5.out hw2.size) hne5, apt_or hap, by (repeat' (first | exact Below.refl _ _ | assumption | refine below_new ?_ _ | refine below_draw ?_ | refine below_tail (by assumption) ?_ | refine below_set ?_ (by first | omega | (simp <;> omega)) _))⟩
              · have hI : Hid (acc = insF c.still s) := by have h := HIns2.out; rw [if_pos rfl, List.append_nil] at h; exact h
                obtain ⟨ga, gp, es⟩ := own_slice HO.out.2.2.2.2.1
                subst es
                have HO7 : Hid (OutAt c w2 g (.slice a30 c.free.length p30) (.slice ga (insF c.still s).length gp) (insF c.still s) wr) := by have h := HO.out; rw [hI.out] at h; exact h
                clear HO
                obtain ⟨X, hX⟩ : ∃ X, X = wr := ⟨_, rfl⟩
                subst hX
                have HV := Lib.hid HO7.out
                obtain ⟨og, oB, ox, of4, os5, hnf, hns, hap⟩ := HO7.out
                have k0 := cell_of_block ox 0
                have k1 := cell_of_block ox 1
                have k2 := cell_of_block ox 2
                simp at k0 k1 k2
                have r5c : ∀ o, X.cell? ⟨w.heap.size + 2, o, none⟩ = w2.cell? ⟨w.heap.size + 2, o, none⟩ := fun o => oB.cell (p := ⟨w.heap.size + 2, o, none⟩) (by dsimp only; omega)
                have r5f : ∀ o, X.frozen? ⟨w.heap.size + 2, o, none⟩ = w2.frozen? ⟨w.heap.size + 2, o, none⟩ := fun o => oB.frozen (p := ⟨w.heap.size + 2, o, none⟩) (by dsimp only; omega)
                have hne4 : (Value.slice a30 c.free.length p30).ownBlock ≠ some (w.heap.size + 2) := ne_old of4 (by omega)
                have hne5 := ne_old os5 (show w.heap.size + 2 < w2.heap.size by omega)
                have HF4 := Lib.hid of4
                have HS5 := Lib.hid os5
                clear of4 os5 ox
                go_wp2
                refine bodyPost_ret (v := .tuple #[.agg #[.int .i64 c.first, .slice a30 c.free.length p30, .slice ga (insF c.still s).length gp], .int .i64 0]) (by simp [results, Try.f50, go_sem, r5c, hx22, hx12]) rfl ?_
                exact ⟨_, _, by rw [hR.out, HE.out]; rfl, by rw [hR.out]; exact own_set3 (own_base HF4.out hw2.size) hne4, by rw [hR.out]; exact own_set3 (own_base HS5.out hw2.size) hne5, apt_or hap, by (repeat' (first | exact Below.refl _ _ | assumption | refine below_new ?_ _ | refine below_draw ?_ | refine below_tail (by assumption) ?_ | refine below_set ?_ (by first | omega | (simp <;> omega)) _))⟩
  · have Hz := Lib.hid hz
    have hz1 : (validF c == 0) = false := by simpa using hz
    have hz2 : (validF c != 0) = true := by simpa using hz
    have HE : Hid (withE c s = validF c) := by unfold Hid; rw [HE0.out, if_neg hz]
    clear hz
    go_enter Try.func50, Try.ntmps50
    go_wp2_with (first | (go_at_call 41; (with_reducible refine (rvalidate_calls _ c _ (HCal.out.below (by (repeat' (first | exact Below.refl _ _ | assumption | refine below_new ?_ _ | refine below_draw ?_ | refine below_tail (by assumption) ?_ | refine below_set ?_ (by first | omega | (simp <;> omega)) _))))).use ?_); intro w1 hb1 hz1 hc1 hf1; (try simp at hz1); have hy1 : w.heap.size + 2 < w1.heap.size := (by omega); have hx10 := fun o => hc1 (w.heap.size) o (by first | omega | (simp <;> omega)); have hx11 := fun o => hc1 (w.heap.size + 1) o (by first | omega | (simp <;> omega)); have hx12 := fun o => hc1 (w.heap.size + 2) o (by first | omega | (simp <;> omega)); have hq1 := fun o => hf1 (w.heap.size + 2) o (by first | omega | (simp <;> omega)); clear hc1 hf1))
    (try simp only [Exit.inBlock, Exit.then])
    refine bodyPost_ret (v := .tuple #[.agg #[.int .i64 0, .slice none 0 0, .slice none 0 0], .int .i64 (withE c s)]) (by rw [HE.out]; simp [results, Try.f50, go_sem, hx12]) rfl ?_
    exact ⟨_, _, by rw [withR_bad (by rw [HE.out]; exact Hz.out)], by rw [withR_bad (by rw [HE.out]; exact Hz.out)]; exact World.ownsRow_nil _ _ _ _, by rw [withR_bad (by rw [HE.out]; exact Hz.out)]; exact World.ownsRow_nil _ _ _ _, .inl rfl, by (repeat' (first | exact Below.refl _ _ | assumption | refine below_new ?_ _ | refine below_draw ?_ | refine below_tail (by assumption) ?_ | refine below_set ?_ (by first | omega | (simp <;> omega)) _))⟩
end Go.Proofs.Ytnhohnnoffhkhaa
