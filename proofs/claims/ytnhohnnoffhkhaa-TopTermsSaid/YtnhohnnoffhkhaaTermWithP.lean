/- What With of package term gives: a calendar in memory of its own, and an error. Conditions: a calendar lies in memory as said. -/
import Derived.Test.YtnhohnnoffhkhaaWithSort
import Derived.Test.YtnhohnnoffhkhaaClone
import Derived.Test.YtnhohnnoffhkhaaRegInv
import Derived.Test.YtnhohnnoffhkhaaApp
import Derived.Deep.AppendLies
namespace Go.Proofs.Ytnhohnnoffhkhaa
open Go.RowKit

/-- The call gives a calendar in memory of its own, and an error. -/
def GivesC (P : Program) (f : FuncId) (args : Array Value) (w : World) (c : Cal) (err : Int) : Prop :=
  Calls P f args w fun e w' => ∃ fv sv, e = .returned (.tuple #[.agg #[.int .i64 c.first, fv, sv], .int .i64 err]) ∧ w'.ownsRow w.heap.size 3 1 fv c.free.length (cells1 c.free) ∧
    w'.ownsRow w.heap.size 50 2 sv c.still.length (cells2 c.still) ∧ (fv.ownBlock = none ∨ fv.ownBlock ≠ sv.ownBlock) ∧ Below w.heap.size w w'
theorem withR_bad {c : Cal} {s : Int × Int} (h : withE c s ≠ 0) : withR c s = ⟨0, [], []⟩ := by unfold withR; rw [if_neg h]

/-- What holds while the calendar is put together, d: the operations done. -/
def WithI (c : Cal) (s : Int × Int) (fa sa : Option Addr) (fc sc B : Nat) (y : World) (v0 v1 v5 v6 v8 v9 v10 v11 v12 v13 v14 v15 v16 v17 v18 v19 v20 v21 v22 v35 v36 v37 v38 v39 v40 v41 v42 : Value) (d : Nat → Bool) (a : Act) (x : World) : Prop :=
  ∃ u7 u23 u24 u25 u26 u27 u28 u29 u30 u31 u32 u33 u34 : Value, a = ⟨#[v0, v1, .pointer (some ⟨B, 0, none⟩), .pointer (some ⟨B + 1, 0, none⟩), .pointer (some ⟨B + 1 + 1, 0, none⟩), v5, v6, u7, v8, v9, v10, v11, v12, v13, v14, v15, v16, v17, v18, v19, v20, v21, v22, u23, u24, u25, u26, u27, u28, u29, u30, u31, u32, u33, u34, v35, v36, v37, v38, v39, v40, v41, v42], []⟩ ∧
    Below y.heap.size y x ∧
    (d 0 = true → u23 = .pointer (some ⟨B, 0, none⟩)) ∧
    (d 1 = true → u24 = .int .i64 c.first) ∧
    (d 2 = true → u25 = .pointer (some ⟨B, 1, none⟩)) ∧
    (d 3 = true → u26 = .slice fa c.free.length fc) ∧
    (d 4 = true → x.ownsRow y.heap.size 3 1 u27 c.free.length (cells1 c.free)) ∧
    (d 5 = true → u28 = .pointer (some ⟨B, 2, none⟩)) ∧
    (d 6 = true → u29 = .slice sa c.still.length sc) ∧
    (d 7 = true → d 10 = false → x.ownsRow y.heap.size 50 2 u30 c.still.length (cells2 c.still)) ∧
    (d 8 = true → u31 = .agg #[.int .i64 s.1, .int .i64 s.2]) ∧
    (d 9 = true → d 10 = false → ∃ g, u32 = .slice (some ⟨g, 0, none⟩) 1 1 ∧ (∀ j u, (cells2 [s])[j]? = some u → x.cell? ((⟨g, 0, none⟩ : Addr).add j) = some u)) ∧
    (d 10 = true → x.ownsRow y.heap.size 50 2 u33 (c.still.length + 1) (cells2 (c.still ++ [s]))) ∧
    (d 11 = true → u34 = .agg #[.int .i64 c.first, u27, u33]) ∧
    (d 12 = true → ∃ (g : Nat) (cs : Nat → Value), u7 = .pointer (some ⟨g, 0, none⟩) ∧ y.heap.size ≤ g ∧ x.heap[g]? = some (.cells #[cs 0, cs 1, cs 2] 25 (0, 0)) ∧ (d 13 = true → cs 0 = .int .i64 c.first ∧ cs 1 = u27 ∧ cs 2 = u33) ∧ (d 4 = true → u27.ownBlock ≠ some g) ∧ (d 7 = true → d 10 = false → u30.ownBlock ≠ some g) ∧ (d 10 = true → u33.ownBlock ≠ some g)) ∧
    (d 4 = true → d 7 = true → d 10 = false → apt u27 u30) ∧
    (d 4 = true → d 10 = true → apt u27 u33) ∧
    (d 10 = true → d 7 = true ∧ d 9 = true) ∧
    (d 11 = true → d 4 = true ∧ d 10 = true) ∧
    (d 13 = true → d 11 = true ∧ d 12 = true)
set_option maxHeartbeats 4000000 in
set_option maxRecDepth 100000 in
theorem With_calls (v : Value) (c : Cal) (s : Int × Int) (w : World) (h : CalAt w v c) :
    GivesC Try.prog 30 #[v, .agg #[.int .i64 s.1, .int .i64 s.2]] w (withR c s) (withE c s) := by
  obtain ⟨fa, fc, sa, sc, rfl, hf, hs, hfc, hsc, hfl, hsl⟩ := h.cells
  have HCal := Lib.hid h
  clear h hf hs
  unfold GivesC
  have HE0 : Hid (withE c s = if validF c = 0 then (if 4 ≤ c.still.length then 3 else if spanB s then (if c.still.any (fun a => lapB a s) then 6 else 0) else 1) else validF c) := rfl
  by_cases hz : validF c = 0
  · have Hz := Lib.hid hz
    have hz1 : (validF c == 0) = true := by simpa using hz
    have hz2 : (validF c != 0) = false := by simpa using hz
    have hlen := (valid_parts.1 hz).2.2.1
    clear hz
    by_cases h4 : c.still.length = 4
    · have hg : ((c.still.length : Int) == 4) = true := beq_iff_eq.2 (by omega)
      have HE : Hid (withE c s = 3) := by unfold Hid; rw [HE0.out, if_pos Hz.out, if_pos (by omega)]
      clear h4
      go_enter Try.func30, Try.ntmps30
      go_wp2_with (first | (go_at_call 40; (with_reducible refine (validate_calls _ c _ (HCal.out.below (by (repeat' (first | exact Below.refl _ _ | assumption | refine below_new ?_ _ | refine below_draw ?_ | refine below_tail (by assumption) ?_ | refine below_set ?_ (by first | omega | (simp <;> omega)) _))))).use ?_); intro w1 hb1 hz1 hc1 hf1; (try simp at hz1); have hy1 : w.heap.size + 2 < w1.heap.size := (by omega); have hx10 := fun o => hc1 (w.heap.size) o (by first | omega | (simp <;> omega)); have hx11 := fun o => hc1 (w.heap.size + 1) o (by first | omega | (simp <;> omega)); have hx12 := fun o => hc1 (w.heap.size + 2) o (by first | omega | (simp <;> omega)); have hq1 := fun o => hf1 (w.heap.size + 2) o (by first | omega | (simp <;> omega)); clear hc1 hf1))
      (try simp only [Exit.inBlock, Exit.then])
      refine bodyPost_ret (v := .tuple #[.agg #[.int .i64 0, .slice none 0 0, .slice none 0 0], .int .i64 (withE c s)]) (by rw [HE.out]; simp [results, Try.f30, go_sem, hx12]) rfl ?_
      exact ⟨_, _, by rw [withR_bad (by rw [HE.out]; decide)], by rw [withR_bad (by rw [HE.out]; decide)]; exact World.ownsRow_nil _ _ _ _, by rw [withR_bad (by rw [HE.out]; decide)]; exact World.ownsRow_nil _ _ _ _, .inl rfl, by (repeat' (first | exact Below.refl _ _ | assumption | refine below_new ?_ _ | refine below_draw ?_ | refine below_tail (by assumption) ?_ | refine below_set ?_ (by first | omega | (simp <;> omega)) _))⟩
    · have hg : ((c.still.length : Int) == 4) = false := beq_eq_false_iff_ne.2 (by omega)
      cases hs : spanB s
      · have HE : Hid (withE c s = 1) := by unfold Hid; rw [HE0.out, if_pos Hz.out, if_neg (by omega), hs]; rfl
        go_enter Try.func30, Try.ntmps30
        go_wp2_with (first | (go_at_call 40; (with_reducible refine (validate_calls _ c _ (HCal.out.below (by (repeat' (first | exact Below.refl _ _ | assumption | refine below_new ?_ _ | refine below_draw ?_ | refine below_tail (by assumption) ?_ | refine below_set ?_ (by first | omega | (simp <;> omega)) _))))).use ?_); intro w1 hb1 hz1 hc1 hf1; (try simp at hz1); have hy1 : w.heap.size + 2 < w1.heap.size := (by omega); have hx10 := fun o => hc1 (w.heap.size) o (by first | omega | (simp <;> omega)); have hx11 := fun o => hc1 (w.heap.size + 1) o (by first | omega | (simp <;> omega)); have hx12 := fun o => hc1 (w.heap.size + 2) o (by first | omega | (simp <;> omega)); have hq1 := fun o => hf1 (w.heap.size + 2) o (by first | omega | (simp <;> omega)); clear hc1 hf1) | (go_at_call 67; (with_reducible refine (isSpan_calls s _).use ?_); intro w2 hb2 hz2 hc2 hf2; (try simp at hz2); have hy2 : w.heap.size + 2 < w2.heap.size := (by omega); have hx20 := fun o => hc2 (w.heap.size) o (by first | omega | (simp <;> omega)); have hx21 := fun o => hc2 (w.heap.size + 1) o (by first | omega | (simp <;> omega)); have hx22 := fun o => hc2 (w.heap.size + 2) o (by first | omega | (simp <;> omega)); have hq2 := fun o => hf2 (w.heap.size + 2) o (by first | omega | (simp <;> omega)); clear hc2 hf2; rw [hs]))
        (try simp only [Exit.inBlock, Exit.then])
        refine bodyPost_ret (v := .tuple #[.agg #[.int .i64 0, .slice none 0 0, .slice none 0 0], .int .i64 (withE c s)]) (by rw [HE.out]; simp [results, Try.f30, go_sem, hx22, hx12]) rfl ?_
        exact ⟨_, _, by rw [withR_bad (by rw [HE.out]; decide)], by rw [withR_bad (by rw [HE.out]; decide)]; exact World.ownsRow_nil _ _ _ _, by rw [withR_bad (by rw [HE.out]; decide)]; exact World.ownsRow_nil _ _ _ _, .inl rfl, by (repeat' (first | exact Below.refl _ _ | assumption | refine below_new ?_ _ | refine below_draw ?_ | refine below_tail (by assumption) ?_ | refine below_set ?_ (by first | omega | (simp <;> omega)) _))⟩
      · go_enter Try.func30, Try.ntmps30
        go_wp2_with (first | (go_at_call 40; (with_reducible refine (validate_calls _ c _ (HCal.out.below (by (repeat' (first | exact Below.refl _ _ | assumption | refine below_new ?_ _ | refine below_draw ?_ | refine below_tail (by assumption) ?_ | refine below_set ?_ (by first | omega | (simp <;> omega)) _))))).use ?_); intro w1 hb1 hz1 hc1 hf1; (try simp at hz1); have hy1 : w.heap.size + 2 < w1.heap.size := (by omega); have hx10 := fun o => hc1 (w.heap.size) o (by first | omega | (simp <;> omega)); have hx11 := fun o => hc1 (w.heap.size + 1) o (by first | omega | (simp <;> omega)); have hx12 := fun o => hc1 (w.heap.size + 2) o (by first | omega | (simp <;> omega)); have hq1 := fun o => hf1 (w.heap.size + 2) o (by first | omega | (simp <;> omega)); clear hc1 hf1) | (go_at_call 67; (with_reducible refine (isSpan_calls s _).use ?_); intro w2 hb2 hz2 hc2 hf2; (try simp at hz2); have hy2 : w.heap.size + 2 < w2.heap.size := (by omega); have hx20 := fun o => hc2 (w.heap.size) o (by first | omega | (simp <;> omega)); have hx21 := fun o => hc2 (w.heap.size + 1) o (by first | omega | (simp <;> omega)); have hx22 := fun o => hc2 (w.heap.size + 2) o (by first | omega | (simp <;> omega)); have hq2 := fun o => hf2 (w.heap.size + 2) o (by first | omega | (simp <;> omega)); clear hc2 hf2; rw [hs]))
        have hw2 : Below w.heap.size w w2 := by (repeat' (first | exact Below.refl _ _ | assumption | refine below_new ?_ _ | refine below_draw ?_ | refine below_tail (by assumption) ?_ | refine below_set ?_ (by first | omega | (simp <;> omega)) _))
        have c0 : w2.cell? ⟨w.heap.size, 0, none⟩ = some (.int .i64 c.first) := by simp [hx20, hx10, go_sem]
        have c1 : w2.cell? ⟨w.heap.size, 1, none⟩ = some (.slice fa c.free.length fc) := by simp [hx20, hx10, go_sem]
        have c2 : w2.cell? ⟨w.heap.size, 2, none⟩ = some (.slice sa c.still.length sc) := by simp [hx20, hx10, go_sem]
        have d0 : w2.cell? ⟨w.heap.size + 1, 0, none⟩ = some (.int .i64 s.1) := by simp [hx21, hx11, go_sem]
        have d1 : w2.cell? ⟨w.heap.size + 1, 1, none⟩ = some (.int .i64 s.2) := by simp [hx21, hx11, go_sem]
        obtain ⟨hfl12, hst4⟩ := And.intro (valid_parts.1 Hz.out).2.1 hlen
        have HF2 : Hid (IntsAt w2 (.slice fa c.free.length fc) c.free) := by
          obtain ⟨fv, sv, e, hI, hP⟩ := HCal.out.below hw2
          simp only [Value.agg.injEq, Array.mk.injEq, List.cons.injEq, and_true, true_and] at e
          rw [e.1]; exact hI
        have HP2 : Hid (PairsAt w2 (.slice sa c.still.length sc) c.still) := by
          obtain ⟨fv, sv, e, hI, hP⟩ := HCal.out.below hw2
          simp only [Value.agg.injEq, Array.mk.injEq, List.cons.injEq, and_true, true_and] at e
          rw [e.2]; exact hP
        obtain ⟨i0, hi0, hz0, hi1, hi2⟩ := info_parts infoSpan
        refine wp_region_inv mixed (by kernel_rfl) (WithI c s fa sa fc sc w.heap.size w2 (.agg #[.int .i64 c.first, .slice fa c.free.length fc, .slice sa c.still.length sc]) (.agg #[.int .i64 s.1, .int .i64 s.2]) (.int .i64 0) (.int .i64 (validF c)) (.agg #[.int .i64 c.first, .slice fa c.free.length fc, .slice sa c.still.length sc]) (.int .i64 (validF c)) (.int .i64 (validF c)) (.bool false) undef undef (.pointer (some ⟨w.heap.size, 2, none⟩)) (.slice sa c.still.length sc) (.int .i64 (c.still.length : Int)) (.bool false) undef (.agg #[.int .i64 s.1, .int .i64 s.2]) (.bool true) (.bool false) undef undef undef undef undef undef undef undef undef) ?h0 ?hstep ?hend
        case h0 =>
          unfold WithI
          refine ⟨_, _, _, _, _, _, _, _, _, _, _, _, _, rfl, below_draw (Below.refl _ _), ?_⟩
          simp only [Bool.false_eq_true, false_implies, and_self]
        case hstep =>
          intro d a x hI i hi hdi hed
          unfold WithI at hI
          obtain ⟨u7, u23, u24, u25, u26, u27, u28, u29, u30, u31, u32, u33, u34, rfl, fb, f0, f1, f2, f3, f4, f5, f6, f7, f8, f9, f10, f11, f12, f47, f410, fc10, fc11, fc13⟩ := hI
          have hi' : i < 14 := hi
          clear hi
          rcases (show i = 0 ∨ i = 1 ∨ i = 2 ∨ i = 3 ∨ i = 4 ∨ i = 5 ∨ i = 6 ∨ i = 7 ∨ i = 8 ∨ i = 9 ∨ i = 10 ∨ i = 11 ∨ i = 12 ∨ i = 13 by omega) with rfl | rfl | rfl | rfl | rfl | rfl | rfl | rfl | rfl | rfl | rfl | rfl | rfl | rfl
          · skip
            have he := hed _ rfl
            simp only [Region.binds] at he
            try simp at he
            clear hed
            refine wpOp_step rfl (fun K hK => ?_)
            go_simp
            (try (refine hK _ _ ?_; clear hK K))
            unfold WithI
            refine ⟨_, _, _, _, _, _, _, _, _, _, _, _, _, rfl, ?_⟩
            simp only [Nat.reduceBEq, Bool.false_or, Bool.true_or, beq_self_eq_true, forall_const]
            exact ⟨fb, (by trivial), f1, f2, f3, f4, f5, f6, f7, f8, f9, f10, f11, f12, f47, f410, fc10, fc11, fc13⟩
          · skip
            have he := hed _ rfl
            simp only [Region.binds] at he
            try simp at he
            clear hed
            refine wpOp_step rfl (fun K hK => ?_)
            have g0 := f0 he
            subst g0
            have qc0 := (fb.cell (p := ⟨w.heap.size, 0, none⟩) (by dsimp only; omega)).trans c0
            go_simp
            (try (refine hK _ _ ?_; clear hK K))
            unfold WithI
            refine ⟨_, _, _, _, _, _, _, _, _, _, _, _, _, rfl, ?_⟩
            simp only [Nat.reduceBEq, Bool.false_or, Bool.true_or, beq_self_eq_true, forall_const]
            exact ⟨fb, (by intros; trivial), (by trivial), f2, f3, f4, f5, f6, f7, f8, f9, f10, f11, f12, f47, f410, fc10, fc11, fc13⟩
          · skip
            have he := hed _ rfl
            simp only [Region.binds] at he
            try simp at he
            clear hed
            refine wpOp_step rfl (fun K hK => ?_)
            go_simp
            (try (refine hK _ _ ?_; clear hK K))
            unfold WithI
            refine ⟨_, _, _, _, _, _, _, _, _, _, _, _, _, rfl, ?_⟩
            simp only [Nat.reduceBEq, Bool.false_or, Bool.true_or, beq_self_eq_true, forall_const]
            exact ⟨fb, f0, f1, (by trivial), f3, f4, f5, f6, f7, f8, f9, f10, f11, f12, f47, f410, fc10, fc11, fc13⟩
          · skip
            have he := hed _ rfl
            simp only [Region.binds] at he
            try simp at he
            clear hed
            refine wpOp_step rfl (fun K hK => ?_)
            have g0 := f2 he
            subst g0
            have qc1 := (fb.cell (p := ⟨w.heap.size, 1, none⟩) (by dsimp only; omega)).trans c1
            go_simp
            (try (refine hK _ _ ?_; clear hK K))
            unfold WithI
            refine ⟨_, _, _, _, _, _, _, _, _, _, _, _, _, rfl, ?_⟩
            simp only [Nat.reduceBEq, Bool.false_or, Bool.true_or, beq_self_eq_true, forall_const]
            exact ⟨fb, f0, f1, (by intros; trivial), (by trivial), f4, f5, f6, f7, f8, f9, f10, f11, f12, f47, f410, fc10, fc11, fc13⟩
          · skip
            have he := hed _ rfl
            simp only [Region.binds] at he
            try simp at he
            clear hed
            refine wpOp_step rfl (fun K hK => ?_)
            have g0 := f3 he
            subst g0
            go_wp2_with (go_at_call 68; refine (cloneI_own (l := c.free) (HF2.out.below fb) (by omega)).mono ?_; rintro e w3 ⟨fv, rfl, hof, hb3⟩)
            (try (refine hK _ _ ?_; clear hK K))
            unfold WithI
            refine ⟨_, _, _, _, _, _, _, _, _, _, _, _, _, rfl, ?_⟩
            simp only [Nat.reduceBEq, Bool.false_or, Bool.true_or, beq_self_eq_true, forall_const]
            exact ⟨below_tail hb3 fb, f0, f1, f2, (by intros; trivial), own_base hof fb.size, f5, f6, fun h h2 => own_below (f7 h h2) hb3, f8, fun h h2 => let ⟨g, e, hs⟩ := f9 h h2; ⟨g, e, src_below hs hb3⟩, fun h => own_below (f10 h) hb3, fun h => not_both (fc11 h).1 hdi, fun h => let ⟨g, cs, e, hg, hx, h13, h4, h7, h10⟩ := f12 h; ⟨g, cs, e, hg, blk_below hx hb3, fun h => not_both (fc11 (fc13 h).1).1 hdi, fun hk => absurd ((hof.lt g hk).1) (Nat.not_le.2 (Array.getElem?_eq_some_iff.1 hx).1), h7, h10⟩, fun h7 h10 => apt_symm (apt_new (f7 h7 h10) hof (Nat.le_refl _)), fun h10 => apt_symm (apt_new (f10 h10) hof (Nat.le_refl _)), fc10, fun h => ⟨trivial, (fc11 h).2⟩, fc13⟩
          · skip
            have he := hed _ rfl
            simp only [Region.binds] at he
            try simp at he
            clear hed
            refine wpOp_step rfl (fun K hK => ?_)
            go_simp
            (try (refine hK _ _ ?_; clear hK K))
            unfold WithI
            refine ⟨_, _, _, _, _, _, _, _, _, _, _, _, _, rfl, ?_⟩
            simp only [Nat.reduceBEq, Bool.false_or, Bool.true_or, beq_self_eq_true, forall_const]
            exact ⟨fb, f0, f1, f2, f3, f4, (by trivial), f6, f7, f8, f9, f10, f11, f12, f47, f410, fc10, fc11, fc13⟩
          · skip
            have he := hed _ rfl
            simp only [Region.binds] at he
            try simp at he
            clear hed
            refine wpOp_step rfl (fun K hK => ?_)
            have g0 := f5 he
            subst g0
            have qc2 := (fb.cell (p := ⟨w.heap.size, 2, none⟩) (by dsimp only; omega)).trans c2
            go_simp
            (try (refine hK _ _ ?_; clear hK K))
            unfold WithI
            refine ⟨_, _, _, _, _, _, _, _, _, _, _, _, _, rfl, ?_⟩
            simp only [Nat.reduceBEq, Bool.false_or, Bool.true_or, beq_self_eq_true, forall_const]
            exact ⟨fb, f0, f1, f2, f3, f4, (by intros; trivial), (by trivial), f7, f8, f9, f10, f11, f12, f47, f410, fc10, fc11, fc13⟩
          · skip
            have he := hed _ rfl
            simp only [Region.binds] at he
            try simp at he
            clear hed
            refine wpOp_step rfl (fun K hK => ?_)
            have g0 := f6 he.1
            subst g0
            go_wp2_with (go_at_call 69; refine (cloneS_own (l := c.still) (HP2.out.below fb) (by omega)).mono ?_; rintro e w3 ⟨fv, rfl, hof, hb3⟩)
            (try (refine hK _ _ ?_; clear hK K))
            unfold WithI
            refine ⟨_, _, _, _, _, _, _, _, _, _, _, _, _, rfl, ?_⟩
            simp only [Nat.reduceBEq, Bool.false_or, Bool.true_or, beq_self_eq_true, forall_const]
            exact ⟨below_tail hb3 fb, f0, f1, f2, f3, fun h => own_below (f4 h) hb3, f5, (by intros; trivial), fun _ => own_base hof fb.size, f8, fun h h2 => let ⟨g, e, hs⟩ := f9 h h2; ⟨g, e, src_below hs hb3⟩, fun h => own_below (f10 h) hb3, f11, fun h => let ⟨g, cs, e, hg, hx, h13, h4, h7, h10⟩ := f12 h; ⟨g, cs, e, hg, blk_below hx hb3, h13, h4, fun _ hk => absurd ((hof.lt g hk).1) (Nat.not_le.2 (Array.getElem?_eq_some_iff.1 hx).1), h10⟩, fun h4 _ => apt_new (f4 h4) hof (Nat.le_refl _), f410, fun h => ⟨trivial, (fc10 h).2⟩, fc11, fc13⟩
          · skip
            have he := hed _ rfl
            simp only [Region.binds] at he
            try simp at he
            clear hed
            refine wpOp_step rfl (fun K hK => ?_)
            have qd0 := (fb.cell (p := ⟨w.heap.size + 1, 0, none⟩) (by dsimp only; omega)).trans d0
            have qd1 := (fb.cell (p := ⟨w.heap.size + 1, 1, none⟩) (by dsimp only; omega)).trans d1
            go_simp
            (try (refine hK _ _ ?_; clear hK K))
            unfold WithI
            refine ⟨_, _, _, _, _, _, _, _, _, _, _, _, _, rfl, ?_⟩
            simp only [Nat.reduceBEq, Bool.false_or, Bool.true_or, beq_self_eq_true, forall_const]
            exact ⟨fb, f0, f1, f2, f3, f4, f5, f6, f7, (by trivial), f9, f10, f11, f12, f47, f410, fc10, fc11, fc13⟩
          · skip
            have he := hed _ rfl
            simp only [Region.binds] at he
            try simp at he
            clear hed
            refine wpOp_step rfl (fun K hK => ?_)
            have g0 := f8 he
            subst g0
            have hb3 : Below x.heap.size x (x.alloc (.cells #[.int .i64 s.1, .int .i64 s.2] 50)) := (Below.refl _ _).alloc (Nat.le_refl _) _
            have hsrc : ∀ j u, (cells2 [s])[j]? = some u → (x.alloc (.cells #[.int .i64 s.1, .int .i64 s.2] 50)).cell? ((⟨x.heap.size, 0, none⟩ : Addr).add j) = some u := by
              intro j u hj
              match j, hj with
              | 0, hj => simp [cells2] at hj; subst hj; simp [Addr.add, go_sem]
              | 1, hj => simp [cells2] at hj; subst hj; simp [Addr.add, go_sem]
            have HSrc := Lib.hid hsrc
            clear hsrc
            go_simp
            have hsrc := HSrc.out
            (try (refine hK _ _ ?_; clear hK K))
            unfold WithI
            refine ⟨_, _, _, _, _, _, _, _, _, _, _, _, _, rfl, ?_⟩
            simp only [Nat.reduceBEq, Bool.false_or, Bool.true_or, beq_self_eq_true, forall_const]
            exact ⟨below_tail hb3 fb, f0, f1, f2, f3, fun h => own_below (f4 h) hb3, f5, f6, fun h h2 => own_below (f7 h h2) hb3, (by intros; trivial), fun _ => ⟨_, rfl, hsrc⟩, fun h => own_below (f10 h) hb3, f11, fun h => let ⟨g, cs, e, hg, hx, r⟩ := f12 h; ⟨g, cs, e, hg, blk_below hx hb3, r⟩, f47, f410, fun h => ⟨(fc10 h).1, trivial⟩, fc11, fc13⟩
          · skip
            have he := hed _ rfl
            simp only [Region.binds] at he
            try simp at he
            clear hed
            refine wpOp_step rfl (fun K hK => ?_)
            obtain ⟨g9, e9, hsrc⟩ := f9 he.2.1 hdi
            subst e9
            have hos := f7 he.1 hdi
            refine step_append_lies _ (by rfl) _ _ _ (by rfl) _ 50 i0 (.agg #[.int .i64 0, .int .i64 0]) 2 16 Try.underlying23 hi0 hz0 hi1 hi2 (by rfl) (by decide) u30 c.still.length (cells2 c.still) (by rfl) hos _ 1 1 (cells2 [s]) (by rfl) (by rfl) hsrc (cells2_one _) (by decide) (by unfold maxLen; omega) (by omega) fb.size _ rfl ?_
            intro g cap w5 hown5 hgrow hat hlt
            rw [← cells2_append] at hown5
            have hap : d 4 = true → apt u27 (.slice (some ⟨g, 0, none⟩) (c.still.length + 1) cap) := fun h k hk e => by
              simp only [Value.ownBlock, Option.some.injEq] at e
              subst e
              rcases hat with hat | hat
              · exact f47 h he.1 hdi _ hk hat
              · exact apt_nil (f4 h) (Nat.le_of_eq hat.symm) hk
            have hbox : d 12 = true → ∃ (g' : Nat) (cs : Nat → Value), u7 = .pointer (some ⟨g', 0, none⟩) ∧ w2.heap.size ≤ g' ∧ w5.heap[g']? = some (.cells #[cs 0, cs 1, cs 2] 25 (0, 0)) ∧ (d 13 = true → cs 0 = .int .i64 c.first ∧ cs 1 = u27 ∧ cs 2 = .slice (some ⟨g, 0, none⟩) (c.still.length + 1) cap) ∧ (d 4 = true → u27.ownBlock ≠ some g') ∧ (d 7 = true → True) ∧ (Value.slice (some ⟨g, 0, none⟩) (c.still.length + 1) cap).ownBlock ≠ some g' := fun h => by
              obtain ⟨g', cs, e, hg, hx, h13, h4, h7, h10⟩ := f12 h
              have hlt' := (Array.getElem?_eq_some_iff.1 hx).1
              refine ⟨g', cs, e, hg, (hgrow.block g' hlt' (fun e => h7 he.1 hdi e.symm)).trans hx, fun h => not_both (fc11 (fc13 h).1).2 hdi, h4, fun _ => trivial, fun e => ?_⟩
              simp only [Value.ownBlock, Option.some.injEq] at e
              subst e
              rcases hat with hat | hat
              · exact h7 he.1 hdi hat
              · omega
            (try (refine hK _ _ ?_; clear hK K))
            unfold WithI
            refine ⟨_, _, _, _, _, _, _, _, _, _, _, _, _, rfl, ?_⟩
            simp only [Nat.reduceBEq, Bool.false_or, Bool.true_or, beq_self_eq_true, Bool.true_eq_false, false_implies, forall_const]
            exact ⟨below_grow fb hgrow (fun k hk => ((f7 he.1 hdi).lt k hk).1), f0, f1, f2, f3, fun h => (f4 h).kept hgrow (apt_or (f47 h he.1 hdi)), f5, f6, fun _ => trivial, f8, fun _ => trivial, hown5, fun h => not_both (fc11 h).2 hdi, hbox, fun _ _ => trivial, hap, ⟨he.1, he.2.1⟩, fun h => not_both (fc11 h).2 hdi, fc13⟩
          · skip
            have he := hed _ rfl
            simp only [Region.binds] at he
            try simp at he
            clear hed
            refine wpOp_step rfl (fun K hK => ?_)
            have g0 := f1 he.1
            subst g0
            obtain ⟨a27, p27, e27⟩ := own_slice (f4 he.2.1)
            obtain ⟨a33, p33, e33⟩ := own_slice (f10 he.2.2)
            subst e27 e33
            go_simp
            (try (refine hK _ _ ?_; clear hK K))
            unfold WithI
            refine ⟨_, _, _, _, _, _, _, _, _, _, _, _, _, rfl, ?_⟩
            simp only [Nat.reduceBEq, Bool.false_or, Bool.true_or, beq_self_eq_true, forall_const]
            exact ⟨fb, f0, (by intros; trivial), f2, f3, f4, f5, f6, f7, f8, f9, f10, (by trivial), f12, f47, f410, fc10, he.2, fun h => ⟨trivial, (fc13 h).2⟩⟩
          · skip
            have he := hed _ rfl
            simp only [Region.binds] at he
            try simp at he
            clear hed
            refine wpOp_step rfl (fun K hK => ?_)
            have hb3 : Below x.heap.size x (x.alloc (.cells #[.int .i64 0, .slice none 0 0, .slice none 0 0] 25)) := (Below.refl _ _).alloc (Nat.le_refl _) _
            have hblk : (x.alloc (.cells #[.int .i64 0, .slice none 0 0, .slice none 0 0] 25)).heap[x.heap.size]? = some (.cells #[.int .i64 0, .slice none 0 0, .slice none 0 0] 25 (0, 0)) := World.alloc_heap_new _ _
            have HB := Lib.hid hblk
            clear hblk
            go_simp
            have hblk := HB.out
            (try (refine hK _ _ ?_; clear hK K))
            unfold WithI
            refine ⟨_, _, _, _, _, _, _, _, _, _, _, _, _, rfl, ?_⟩
            simp only [Nat.reduceBEq, Bool.false_or, Bool.true_or, beq_self_eq_true, forall_const]
            exact ⟨below_tail hb3 fb, f0, f1, f2, f3, fun h => own_below (f4 h) hb3, f5, f6, fun h h2 => own_below (f7 h h2) hb3, f8, fun h h2 => let ⟨g, e, hs⟩ := f9 h h2; ⟨g, e, src_below hs hb3⟩, fun h => own_below (f10 h) hb3, f11, ⟨_, fun i => if i = 0 then .int .i64 0 else .slice none 0 0, rfl, fb.size, hblk, fun h => not_both (fc13 h).2 hdi, fun h => ne_new (f4 h) (Nat.le_refl _), fun h h2 => ne_new (f7 h h2) (Nat.le_refl _), fun h => ne_new (f10 h) (Nat.le_refl _)⟩, f47, f410, fc10, fc11, fun h => ⟨(fc13 h).1, trivial⟩⟩
          · skip
            have he := hed _ rfl
            simp only [Region.binds] at he
            try simp at he
            clear hed
            refine wpOp_step rfl (fun K hK => ?_)
            obtain ⟨g, cs, e7, hg, hx, h13, h4, h7, h10⟩ := f12 he.1
            subst e7
            have g0 := f11 he.2.1
            subst g0
            obtain ⟨a27, p27, e27⟩ := own_slice (f4 (fc11 he.2.1).1)
            obtain ⟨a33, p33, e33⟩ := own_slice (f10 (fc11 he.2.1).2)
            subst e27 e33
            have k0 := cell_of_block hx 0
            have k1 := cell_of_block hx 1
            have k2 := cell_of_block hx 2
            have l0 := frozen_of_block hx 0
            have l1 := frozen_of_block hx 1
            have l2 := frozen_of_block hx 2
            simp at k0 k1 k2
            have hgr : Hid (x.grownBy (((x.setCell ⟨g, 0, none⟩ (.int .i64 c.first)).setCell ⟨g, 1, none⟩ (.slice a27 c.free.length p27)).setCell ⟨g, 2, none⟩ (.slice a33 (c.still.length + 1) p33)) (some g)) := grown_trans (grown_trans (grown_set _ _ _) (grown_set _ _ _)) (grown_set _ _ _)
            have hblk : Hid ((((x.setCell ⟨g, 0, none⟩ (.int .i64 c.first)).setCell ⟨g, 1, none⟩ (.slice a27 c.free.length p27)).setCell ⟨g, 2, none⟩ (.slice a33 (c.still.length + 1) p33)).heap[g]? = some (.cells #[.int .i64 c.first, .slice a27 c.free.length p27, .slice a33 (c.still.length + 1) p33] 25 (0, 0))) := block_set (block_set (block_set hx 0 _) 1 _) 2 _
            have HX := Lib.hid hx
            clear hx
            go_simp
            replace hgr := hgr.out
            replace hblk := hblk.out
            (try (refine hK _ _ ?_; clear hK K))
            unfold WithI
            refine ⟨_, _, _, _, _, _, _, _, _, _, _, _, _, rfl, ?_⟩
            simp only [Nat.reduceBEq, Bool.false_or, Bool.true_or, beq_self_eq_true, forall_const]
            exact ⟨below_grow fb hgr (fun k hk => by cases hk; exact hg), (by intros; trivial), (by intros; trivial), (by intros; trivial), (by intros; trivial), fun h => (f4 h).kept hgr (apt_some (h4 h)), (by intros; trivial), (by intros; trivial), fun h h2 => (f7 h h2).kept hgr (apt_some (h7 h h2)), (by intros; trivial), fun h h2 => not_both (fc11 he.2.1).2 h2, fun h => (f10 h).kept hgr (apt_some (h10 h)), (by intros; trivial), fun _ => ⟨g, fun i => if i = 0 then .int .i64 c.first else if i = 1 then .slice a27 c.free.length p27 else .slice a33 (c.still.length + 1) p33, rfl, hg, hblk, ⟨rfl, rfl, rfl⟩, h4, h7, h10⟩, f47, f410, fc10, fc11, ⟨he.2.1, he.1⟩⟩
        case hend =>
          intro d a x hI hall
          unfold WithI at hI
          obtain ⟨u7, u23, u24, u25, u26, u27, u28, u29, u30, u31, u32, u33, u34, rfl, fb, f0, f1, f2, f3, f4, f5, f6, f7, f8, f9, f10, f11, f12, f47, f410, fc10, fc11, fc13⟩ := hI
          have hl4 := hall 4 (show 4 < 14 by omega)
          have hl10 := hall 10 (show 10 < 14 by omega)
          have o4 := f4 hl4
          have o10 := f10 hl10
          have ap := f410 hl4 hl10
          obtain ⟨g, cs, e7, hg, hx, h13, hn4, _, hn10⟩ := f12 (hall 12 (show 12 < 14 by omega))
          obtain ⟨e0, e1, e2⟩ := h13 (hall 13 (show 13 < 14 by omega))
          replace hn4 := hn4 hl4
          replace hn10 := hn10 hl10
          rw [e0, e1, e2] at hx
          subst e7
          clear f0 f1 f2 f3 f4 f5 f6 f7 f8 f9 f10 f11 f12 f47 f410 fc10 fc11 fc13 h13 e0 e1 e2 hall hl4 hl10
          obtain ⟨a27, p27, e27⟩ := own_slice o4
          subst e27
          obtain ⟨g33, p33, e33, hg33, hl33⟩ := o10.form (by omega)
          subst e33
          have hgg : g ≠ g33 := fun e => hn10 (by rw [e]; rfl)
          have hls : (c.still ++ [s]).length = c.still.length + 1 := by simp
          have hgood := (valid_parts.1 Hz.out).2.2.2.2
          have hbd : ∀ p ∈ c.still ++ [s], 0 ≤ p.1 ∧ p.1 ≤ 10000 := fun p hp => by
            rcases List.mem_append.1 hp with hp | hp
            · have := spanB_iff.1 (hgood.1 p hp); omega
            · rw [List.mem_singleton] at hp; subst hp
              have := spanB_iff.1 hs; omega
          have hsort := sortSpan_own (l := c.still ++ [s]) (g := g33) (cap := p33) (w := x) (base := w2.heap.size) (by rw [hls]; exact o10) (by rw [hls]; omega) hbd
          rw [hls] at hsort
          have HO := Lib.hid o4
          have HX := Lib.hid hx
          have HV := Lib.hid (valid_parts.1 Hz.out)
          have r0 : ∀ o, x.cell? ⟨w.heap.size + 2, o, none⟩ = w2.cell? ⟨w.heap.size + 2, o, none⟩ := fun o => fb.cell (p := ⟨w.heap.size + 2, o, none⟩) (by dsimp only; omega)
          have r1 : ∀ o, x.frozen? ⟨w.heap.size + 2, o, none⟩ = w2.frozen? ⟨w.heap.size + 2, o, none⟩ := fun o => fb.frozen (p := ⟨w.heap.size + 2, o, none⟩) (by dsimp only; omega)
          have k0 := cell_of_block hx 0
          have k1 := cell_of_block hx 1
          have k2 := cell_of_block hx 2
          simp at k0 k1 k2
          have hxs : w2.heap.size ≤ x.heap.size := fb.size
          have hgx : g < x.heap.size := (Array.getElem?_eq_some_iff.1 hx).1
          have hbx : w.heap.size + 2 < x.heap.size := by omega
          have hbg : w.heap.size + 2 ≠ g33 := by omega
          clear hx o4 o10 hgood hbd
          by_cases hlap : c.still.any (fun a => lapB a s) = true
          · have HE : Hid (withE c s = 6) := by unfold Hid; rw [HE0.out, if_pos Hz.out, if_neg (by omega), if_pos hs, if_pos hlap]
            have HS : Hid (Calls Try.prog 70 #[.slice (some ⟨g33, 0, none⟩) (c.still.length + 1) p33, .func (.func 71) #[] #[]] x fun e w' => e = .returned (.tuple #[]) ∧ ∃ l', l'.length = c.still.length + 1 ∧ validF ⟨c.first, c.free, l'⟩ ≠ 0 ∧ w'.ownsRow w2.heap.size 50 2 (.slice (some ⟨g33, 0, none⟩) l'.length p33) l'.length (cells2 l') ∧ x.grownBy w' (some g33)) := hsort.mono fun e w' ⟨he, l', hp, hsd, ho, hgr⟩ => ⟨he, l', by rw [hp.length_eq, hls], (fun hv => by
                obtain ⟨b, hb, hq⟩ := List.any_eq_true.1 hlap
                have h1 := (sorted_good HV.out.2.2.2.2 hs hp hsd).1.1 (valid_parts.1 hv).2.2.2.2 b hb
                rw [h1] at hq; cases hq), ho, hgr⟩
            clear hsort hlap
            go_wp2_with (first | (go_at_call 70; refine HS.out.mono ?_; rintro e w3 ⟨rfl, l', hll, hval, hown3, hgr⟩; rw [hll] at hown3; have hw3 : Below w2.heap.size w2 w3 := below_grow fb hgr (fun k hk => by cases hk; exact hg33); have hs3 := hgr.size; have r3c : ∀ o, w3.cell? ⟨w.heap.size + 2, o, none⟩ = x.cell? ⟨w.heap.size + 2, o, none⟩ := fun o => hgr.cell_far ⟨w.heap.size + 2, o, none⟩ hbx (fun e => hbg (Option.some.inj e)); have r3f : ∀ o, w3.frozen? ⟨w.heap.size + 2, o, none⟩ = x.frozen? ⟨w.heap.size + 2, o, none⟩ := fun o => hgr.frozen_far ⟨w.heap.size + 2, o, none⟩ hbx (fun e => hbg (Option.some.inj e)); have t3 : ∀ o, w3.cell? ⟨g, o, none⟩ = x.cell? ⟨g, o, none⟩ := fun o => hgr.cell_far ⟨g, o, none⟩ hgx (fun e => hgg (Option.some.inj e)); have hv1 : (validF ⟨c.first, c.free, l'⟩ != 0) = true := (bne_iff_ne ..).2 hval; have HCal3 : Hid (CalAt w3 (.agg #[.int .i64 c.first, .slice a27 c.free.length p27, .slice (some ⟨g33, 0, none⟩) (c.still.length + 1) p33]) ⟨c.first, c.free, l'⟩) := ⟨_, _, rfl, own_ints (HO.out.kept hgr (.inr (fun e => ap _ e rfl))), own_pairs (by rw [hll]; exact hown3)⟩; clear hown3) | (go_at_call 40; (with_reducible refine (validate_calls _ _ _ HCal3.out).use ?_); intro w4 hb4 hz4 hc4 hf4; have r4c : ∀ o, w4.cell? ⟨w.heap.size + 2, o, none⟩ = w3.cell? ⟨w.heap.size + 2, o, none⟩ := fun o => hc4 _ o (by omega); have r4f : ∀ o, w4.frozen? ⟨w.heap.size + 2, o, none⟩ = w3.frozen? ⟨w.heap.size + 2, o, none⟩ := fun o => hf4 _ o (by omega); have t4 : ∀ o, w4.cell? ⟨g, o, none⟩ = w3.cell? ⟨g, o, none⟩ := fun o => hc4 _ o (by omega); clear hc4 hf4))
            (try simp only [Exit.inBlock, Exit.then])
            refine bodyPost_ret (v := .tuple #[.agg #[.int .i64 0, .slice none 0 0, .slice none 0 0], .int .i64 (withE c s)]) (by rw [HE.out]; simp [results, Try.f30, go_sem, r4c, r3c, r0, hx22, hx12]) rfl ?_
            exact ⟨_, _, by rw [withR_bad (by rw [HE.out]; decide)], by rw [withR_bad (by rw [HE.out]; decide)]; exact World.ownsRow_nil _ _ _ _, by rw [withR_bad (by rw [HE.out]; decide)]; exact World.ownsRow_nil _ _ _ _, .inl rfl, by (repeat' (first | exact Below.refl _ _ | assumption | refine below_new ?_ _ | refine below_draw ?_ | refine below_tail (by assumption) ?_ | refine below_set ?_ (by first | omega | (simp <;> omega)) _))⟩
          · have HE : Hid (withE c s = 0) := by unfold Hid; rw [HE0.out, if_pos Hz.out, if_neg (by omega), if_pos hs, if_neg hlap]
            have hno : ∀ a ∈ c.still, lapB a s = false := fun a ha => by
              cases hq : lapB a s
              · rfl
              · exact absurd (List.any_eq_true.2 ⟨a, ha, hq⟩) hlap
            have HS : Hid (Calls Try.prog 70 #[.slice (some ⟨g33, 0, none⟩) (c.still.length + 1) p33, .func (.func 71) #[] #[]] x fun e w' => e = .returned (.tuple #[]) ∧ w'.ownsRow w2.heap.size 50 2 (.slice (some ⟨g33, 0, none⟩) (c.still.length + 1) p33) (c.still.length + 1) (cells2 (insF c.still s)) ∧ x.grownBy w' (some g33)) := hsort.mono fun e w' ⟨he, l', hp, hsd, ho, hgr⟩ => ⟨he, (by
                have hl := (sorted_good HV.out.2.2.2.2 hs hp hsd).2 hno
                rw [hl, insF_length] at ho; exact ho), hgr⟩
            have hv1 : (validF (withC c s) != 0) = false := by
              rw [(valid_with Hz.out (by omega) hs).2 hno]; rfl
            have hR : Hid (withR c s = withC c s) := by unfold Hid withR; rw [if_pos HE.out]
            clear hsort hlap hno
            go_wp2_with (first | (go_at_call 70; refine HS.out.mono ?_; rintro e w3 ⟨rfl, hown3, hgr⟩; have hw3 : Below w2.heap.size w2 w3 := below_grow fb hgr (fun k hk => by cases hk; exact hg33); have hs3 := hgr.size; have r3c : ∀ o, w3.cell? ⟨w.heap.size + 2, o, none⟩ = x.cell? ⟨w.heap.size + 2, o, none⟩ := fun o => hgr.cell_far ⟨w.heap.size + 2, o, none⟩ hbx (fun e => hbg (Option.some.inj e)); have r3f : ∀ o, w3.frozen? ⟨w.heap.size + 2, o, none⟩ = x.frozen? ⟨w.heap.size + 2, o, none⟩ := fun o => hgr.frozen_far ⟨w.heap.size + 2, o, none⟩ hbx (fun e => hbg (Option.some.inj e)); have t3 : ∀ o, w3.cell? ⟨g, o, none⟩ = x.cell? ⟨g, o, none⟩ := fun o => hgr.cell_far ⟨g, o, none⟩ hgx (fun e => hgg (Option.some.inj e)); have HO3 := Lib.hid hown3; have HO4 := Lib.hid (HO.out.kept hgr (.inr (fun e => ap _ e rfl))); have HCal3 : Hid (CalAt w3 (.agg #[.int .i64 c.first, .slice a27 c.free.length p27, .slice (some ⟨g33, 0, none⟩) (c.still.length + 1) p33]) (withC c s)) := ⟨_, _, rfl, own_ints HO4.out, own_pairs (by show World.ownsRow _ _ _ _ _ (insF c.still s).length (cells2 (insF c.still s)); rw [insF_length]; exact hown3)⟩; clear hown3) | (go_at_call 40; (with_reducible refine (validate_calls _ _ _ HCal3.out).use ?_); intro w4 hb4 hz4 hc4 hf4; have r4c : ∀ o, w4.cell? ⟨w.heap.size + 2, o, none⟩ = w3.cell? ⟨w.heap.size + 2, o, none⟩ := fun o => hc4 _ o (by omega); have r4f : ∀ o, w4.frozen? ⟨w.heap.size + 2, o, none⟩ = w3.frozen? ⟨w.heap.size + 2, o, none⟩ := fun o => hf4 _ o (by omega); have t4 : ∀ o, w4.cell? ⟨g, o, none⟩ = w3.cell? ⟨g, o, none⟩ := fun o => hc4 _ o (by omega); clear hc4 hf4))
            refine bodyPost_ret (v := .tuple #[.agg #[.int .i64 c.first, .slice a27 c.free.length p27, .slice (some ⟨g33, 0, none⟩) (c.still.length + 1) p33], .int .i64 0]) (by simp [results, Try.f30, go_sem, r4c, r3c, r0, hx22, hx12]) rfl ?_
            refine ⟨_, _, by rw [hR.out, HE.out]; rfl, by rw [hR.out]; exact own_set3 (own_base (own_below HO4.out hb4) hw2.size) (fun e => by have := (HO4.out.lt _ e).1; omega), by rw [hR.out]; show World.ownsRow _ _ _ _ _ (insF c.still s).length (cells2 (insF c.still s)); rw [insF_length]; exact own_set3 (own_base (own_below HO3.out hb4) hw2.size) (fun e => by have := (HO3.out.lt _ e).1; omega), apt_or ap, by (repeat' (first | exact Below.refl _ _ | assumption | refine below_new ?_ _ | refine below_draw ?_ | refine below_tail (by assumption) ?_ | refine below_set ?_ (by first | omega | (simp <;> omega)) _))⟩
  · have Hz := Lib.hid hz
    have hz1 : (validF c == 0) = false := by simpa using hz
    have hz2 : (validF c != 0) = true := by simpa using hz
    have HE : Hid (withE c s = validF c) := by unfold Hid; rw [HE0.out, if_neg hz]
    clear hz
    go_enter Try.func30, Try.ntmps30
    go_wp2_with (first | (go_at_call 40; (with_reducible refine (validate_calls _ c _ (HCal.out.below (by (repeat' (first | exact Below.refl _ _ | assumption | refine below_new ?_ _ | refine below_draw ?_ | refine below_tail (by assumption) ?_ | refine below_set ?_ (by first | omega | (simp <;> omega)) _))))).use ?_); intro w1 hb1 hz1 hc1 hf1; (try simp at hz1); have hy1 : w.heap.size + 2 < w1.heap.size := (by omega); have hx10 := fun o => hc1 (w.heap.size) o (by first | omega | (simp <;> omega)); have hx11 := fun o => hc1 (w.heap.size + 1) o (by first | omega | (simp <;> omega)); have hx12 := fun o => hc1 (w.heap.size + 2) o (by first | omega | (simp <;> omega)); have hq1 := fun o => hf1 (w.heap.size + 2) o (by first | omega | (simp <;> omega)); clear hc1 hf1))
    (try simp only [Exit.inBlock, Exit.then])
    refine bodyPost_ret (v := .tuple #[.agg #[.int .i64 0, .slice none 0 0, .slice none 0 0], .int .i64 (withE c s)]) (by rw [HE.out]; simp [results, Try.f30, go_sem, hx12]) rfl ?_
    exact ⟨_, _, by rw [withR_bad (by rw [HE.out]; exact Hz.out)], by rw [withR_bad (by rw [HE.out]; exact Hz.out)]; exact World.ownsRow_nil _ _ _ _, by rw [withR_bad (by rw [HE.out]; exact Hz.out)]; exact World.ownsRow_nil _ _ _ _, .inl rfl, by (repeat' (first | exact Below.refl _ _ | assumption | refine below_new ?_ _ | refine below_draw ?_ | refine below_tail (by assumption) ?_ | refine below_set ?_ (by first | omega | (simp <;> omega)) _))⟩
end Go.Proofs.Ytnhohnnoffhkhaa
