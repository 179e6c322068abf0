/- What where of package plot gives. Conditions: coordinates are small; the list lies in memory as said. -/
import Derived.Test.YthiemglckmociaaPtSum
import Derived.Test.YthiemglckmociaaKit
namespace Go.Proofs.Ythiemglckmociaa
open Go.RowKit Go.Shelf
attribute [local go_sem] Oper.semAt_some wide_fn

/-- Does a ray to the right meet the side? -/
def hitB (a b x : Int × Int) : Bool :=
  if b.2 < a.2 then decide (b.2 ≤ x.2) && (decide (x.2 < a.2) && decide (0 < turn b a x)) else decide (a.2 ≤ x.2) && (decide (x.2 < b.2) && decide (0 < turn a b x))
/-- Inside or outside, by the first k sides. -/
def inK (l : List (Int × Int)) (x : Int × Int) : Nat → Int
  | 0 => -1
  | k + 1 => if hitB (cor l k) (cor l (k + 1)) x = true then - inK l x k else inK l x k
theorem inK_bd (l : List (Int × Int)) (x : Int × Int) : ∀ k, inK l x k = -1 ∨ inK l x k = 1
  | 0 => .inl rfl
  | k + 1 => by unfold inK; have := inK_bd l x k; split <;> omega
theorem inK_yes {l : List (Int × Int)} {x : Int × Int} {k : Nat} (h : hitB (cor l k) (cor l (k + 1)) x = true) : inK l x (k + 1) = - inK l x k := by rw [inK, if_pos h]
theorem inK_no {l : List (Int × Int)} {x : Int × Int} {k : Nat} (h : hitB (cor l k) (cor l (k + 1)) x = false) : inK l x (k + 1) = inK l x k := by rw [inK, if_neg (by simp [h])]
theorem cell_set4 {W : World} {a b c o : Nat} {u0 u1 u2 u3 : Value} (ha : c ≠ a) (hb : c ≠ b) : ((((W.setCell ⟨a, 0, none⟩ u0).setCell ⟨a, 1, none⟩ u1).setCell ⟨b, 0, none⟩ u2).setCell ⟨b, 1, none⟩ u3).cell? ⟨c, o, none⟩ = W.cell? ⟨c, o, none⟩ := by
  rw [World.cell?_setCell_other _ _ _ _ (by simp), World.cell?_setCell_other _ _ _ _ (by simp), World.cell?_setCell_other _ _ _ _ (by simp), World.cell?_setCell_other _ _ _ _ (by simp)]
theorem frozen_set4 {W : World} {a b c o : Nat} {u0 u1 u2 u3 : Value} (_ : c ≠ a) (_ : c ≠ b) : ((((W.setCell ⟨a, 0, none⟩ u0).setCell ⟨a, 1, none⟩ u1).setCell ⟨b, 0, none⟩ u2).setCell ⟨b, 1, none⟩ u3).frozen? ⟨c, o, none⟩ = W.frozen? ⟨c, o, none⟩ := by
  rw [World.frozen?_setCell, World.frozen?_setCell, World.frozen?_setCell, World.frozen?_setCell]
def onAny (l : List (Int × Int)) (x : Int × Int) : Bool := anyN (fun i => onB (cor l i) (cor l (i + 1)) x) l.length
/-- Where a point is. -/
def whereP (l : List (Int × Int)) (x : Int × Int) : Int := if onAny l x = true then 0 else inK l x l.length
theorem hit_lo {a b x : Int × Int} (h : b.2 < a.2) : hitB a b x = (decide (b.2 ≤ x.2) && (decide (x.2 < a.2) && decide (0 < turn b a x))) := by unfold hitB; rw [if_pos h]
theorem hit_hi {a b x : Int × Int} (h : ¬ b.2 < a.2) : hitB a b x = (decide (a.2 ≤ x.2) && (decide (x.2 < b.2) && decide (0 < turn a b x))) := by unfold hitB; rw [if_neg h]

def WhereI (pa pb : Int × Int) (g7 : Nat) (y : World) (v0 v1 v2 v3 v4 v5 v6 v7 v10 v11 v12 v13 v14 v15 v16 v21 v22 v23 v24 v25 v26 v27 v28 v29 v30 v31 v32 v33 v34 v35 v36 v37 v38 v39 v40 v41 v42 v43 v44 v45 v46 v47 v48 v49 : Value) (d : Nat → Bool) (a : Act) (x : World) : Prop :=
  ∃ u8 u9 u17 u18 u19 u20 : Value, a = ⟨#[v0, v1, v2, v3, v4, v5, v6, v7, u8, u9, v10, v11, v12, v13, v14, v15, v16, u17, u18, u19, u20, v21, v22, v23, v24, v25, v26, v27, v28, v29, v30, v31, v32, v33, v34, v35, v36, v37, v38, v39, v40, v41, v42, v43, v44, v45, v46, v47, v48, v49], []⟩ ∧
    (Below y.heap.size y x) ∧
    (d 0 = true → u17 = .pointer (some ⟨g7, 0, none⟩)) ∧
    (d 1 = true → u18 = .agg #[.int .i64 pa.1, .int .i64 pa.2]) ∧
    (d 2 = true → u19 = .pointer (some ⟨g7, 2, none⟩)) ∧
    (d 3 = true → u20 = .agg #[.int .i64 pb.1, .int .i64 pb.2]) ∧
    (d 6 = true → d 4 = true) ∧
    (d 4 = true → ∃ (g : Nat) (cs : Nat → Value), u8 = .pointer (some ⟨g, 0, none⟩) ∧ y.heap.size ≤ g ∧ x.heap[g]? = some (.cells #[cs 0, cs 1] 32 (0, 0)) ∧ (d 6 = true → cs 0 = .int .i64 pa.1 ∧ cs 1 = .int .i64 pa.2)) ∧
    (d 7 = true → d 5 = true) ∧
    (d 5 = true → ∃ (g : Nat) (cs : Nat → Value), u9 = .pointer (some ⟨g, 0, none⟩) ∧ y.heap.size ≤ g ∧ x.heap[g]? = some (.cells #[cs 0, cs 1] 32 (0, 0)) ∧ (d 7 = true → cs 0 = .int .i64 pb.1 ∧ cs 1 = .int .i64 pb.2)) ∧
    (d 4 = true → d 5 = true → u8 ≠ u9)

set_option maxHeartbeats 4000000 in
set_option maxRecDepth 100000 in
theorem where_calls (v : Value) (l : List (Int × Int)) (pt : Int × Int) (w : World) (h : PairsAt w v l) (h0 : 0 < l.length) (h1 : l.length ≤ 1000) (hbd : ∀ i, bdP (cor l i)) (hx : bdP pt) :
    Gives Try.prog 59 #[v, .agg #[.int .i64 pt.1, .int .i64 pt.2]] w (.int .i64 (whereP l pt)) := by
  have HP := Lib.hid h
  have HBD := Lib.hid hbd
  have HW : Hid (whereP l pt = if onAny l pt = true then 0 else inK l pt l.length) := rfl
  obtain ⟨sa, cap, rfl, hlc, hcm, _⟩ := h
  clear hbd
  obtain ⟨⟨x1, x2⟩, x3, x4⟩ := id hx
  unfold Gives
  refine (callsIn_wide (n := 9)).1 ?_
  refine callsIn_of_wp_marks Try.func59 rfl trivial ?_ rfl
  simp only [Try.ntmps59, List.size_toArray, List.length_cons, List.length_nil, Nat.reduceAdd, Nat.reduceSub, Array.replicate_succ, Array.replicate_zero, List.push_toArray, List.append_toArray, List.nil_append, List.cons_append]
  gi_wp2_with (gi_at_call 56; refine (callsIn_wide.2 (sides_calls _ _ _ _)).mono ?_; rintro e w' ⟨rfl, rfl⟩)
  obtain ⟨W0, hW0⟩ : ∃ W0, ((((w.alloc (.cells #[.int .i64 pt.1, .int .i64 pt.2] 32)).alloc (.cells #[.int .i64 0] 3)).alloc (.cells #[.int .i64 (-1)] 3)).alloc (.cells #[.slice sa l.length cap] 22)) = W0 := ⟨_, rfl⟩
  rw [hW0]
  have hB0 : Below w.heap.size w W0 := by rw [← hW0]; (repeat' (first | exact Below.refl _ _ | assumption | refine below_new ?_ _ | refine below_draw ?_ | refine below_tail (by assumption) ?_ | refine below_set ?_ (by first | omega | (simp <;> omega)) _))
  have hsz : W0.heap.size = w.heap.size + 4 := by rw [← hW0]; simp [go_sem]
  have e0 : W0.cell? ⟨w.heap.size, 0, none⟩ = some (.int .i64 pt.1) := by rw [← hW0]; simp [go_sem]
  have e1 : W0.cell? ⟨w.heap.size, 1, none⟩ = some (.int .i64 pt.2) := by rw [← hW0]; simp [go_sem]
  have e2 : W0.cell? ⟨w.heap.size + 1, 0, none⟩ = some (.int .i64 0) := by rw [← hW0]; simp [go_sem]
  have e3 : W0.frozen? ⟨w.heap.size + 1, 0, none⟩ = false := by rw [← hW0]; simp [go_sem]
  have e4 : W0.cell? ⟨w.heap.size + 1 + 1, 0, none⟩ = some (.int .i64 (-1)) := by rw [← hW0]; simp [go_sem]
  have e5 : W0.frozen? ⟨w.heap.size + 1 + 1, 0, none⟩ = false := by rw [← hW0]; simp [go_sem]
  have e6 : W0.cell? ⟨w.heap.size + 1 + 1 + 1, 0, none⟩ = some (.slice sa l.length cap) := by rw [← hW0]; simp [go_sem]
  clear hW0
  refine wide_rangeBox (gf := 103) (lb := #[.pointer (some ⟨w.heap.size + 1 + 1 + 1, 0, none⟩)]) rfl (enters_of Try.func103 (by kernel_rfl) rfl) (sides_iter (w.heap.size + 1 + 1 + 1) _ l h0 (by omega)) (fun _ => rfl)
    (fun k W => Below w.heap.size w W ∧ k ≤ l.length ∧ W.cell? ⟨w.heap.size + 1 + 1 + 1, 0, none⟩ = some (.slice sa l.length cap) ∧ W.cell? ⟨w.heap.size, 0, none⟩ = some (.int .i64 pt.1) ∧ W.cell? ⟨w.heap.size, 1, none⟩ = some (.int .i64 pt.2) ∧ W.cell? ⟨w.heap.size + 1, 0, none⟩ = some (.int .i64 0) ∧ W.cell? ⟨w.heap.size + 1 + 1, 0, none⟩ = some (.int .i64 (inK l pt k)) ∧ W.frozen? ⟨w.heap.size + 1, 0, none⟩ = false ∧ W.frozen? ⟨w.heap.size + 1 + 1, 0, none⟩ = false ∧ Hid (∀ j, j < k → onB (cor l j) (cor l (j + 1)) pt = false))
    (fun cd k W => cd = .ret ∧ onAny l pt = true ∧ Below w.heap.size w W ∧ W.cell? ⟨w.heap.size + 1, 0, none⟩ = some (.int .i64 0))
    (fun k W ⟨hB, hk, f0, f1, f2, f3, f4, z0, z1, u0⟩ => ⟨f0, HP.out.below hB⟩)
    (fun k W W' ⟨hB, hk, f0, f1, f2, f3, f4, z0, z1, u0⟩ hb => ⟨hB.trans (hb.mono (by omega)), hk, (hb.cell (p := ⟨w.heap.size + 1 + 1 + 1, 0, none⟩) (by dsimp only; omega)).trans f0, (hb.cell (p := ⟨w.heap.size, 0, none⟩) (by dsimp only; omega)).trans f1, (hb.cell (p := ⟨w.heap.size, 1, none⟩) (by dsimp only; omega)).trans f2, (hb.cell (p := ⟨w.heap.size + 1, 0, none⟩) (by dsimp only; omega)).trans f3, (hb.cell (p := ⟨w.heap.size + 1 + 1, 0, none⟩) (by dsimp only; omega)).trans f4, (hb.frozen (p := ⟨w.heap.size + 1, 0, none⟩) (by dsimp only; omega)).trans z0, (hb.frozen (p := ⟨w.heap.size + 1 + 1, 0, none⟩) (by dsimp only; omega)).trans z1, u0⟩)
    (fun cd k W W' ⟨e1, e2, hB, f3⟩ hb => ⟨e1, e2, hB.trans (hb.mono (by omega)), (hb.cell (p := ⟨w.heap.size + 1, 0, none⟩) (by dsimp only; omega)).trans f3⟩)
    (fun e => by cases e)
    ?start
    (fun k a' W => ∃ (g7 : Nat), a' = { tmps := #[.slice sa l.length cap, .agg #[.int .i64 pt.1, .int .i64 pt.2], undef, .pointer (some ⟨w.heap.size, 0, none⟩), .pointer (some ⟨w.heap.size + 1, 0, none⟩), .pointer (some ⟨w.heap.size + 1 + 1, 0, none⟩), undef, .pointer (some ⟨g7, 0, none⟩), undef, undef, .slice sa l.length cap, .func (.func 103) #[] #[.pointer (some ⟨w.heap.size + 1 + 1 + 1, 0, none⟩)], .int .i64 k, .agg #[.int .i64 (cor l k).1, .int .i64 (cor l k).2, .int .i64 (cor l (k + 1)).1, .int .i64 (cor l (k + 1)).2], undef, undef, undef, undef, undef, undef, undef, undef, undef, undef, undef, undef, undef, undef, undef, undef, undef, undef, undef, undef, undef, undef, undef, undef, undef, undef, undef, undef, undef, undef, undef, undef, undef, undef, undef, undef], defers := [] } ∧ W.cell? ⟨g7, 0, none⟩ = some (.int .i64 (cor l k).1) ∧ W.cell? ⟨g7, 1, none⟩ = some (.int .i64 (cor l k).2) ∧ W.cell? ⟨g7, 2, none⟩ = some (.int .i64 (cor l (k + 1)).1) ∧ W.cell? ⟨g7, 3, none⟩ = some (.int .i64 (cor l (k + 1)).2) ∧ W0.heap.size ≤ g7 ∧ g7 < W.heap.size)
    (fun k a' W l o hl hr ⟨g7, ha, c0, c1, c2, c3, lo7, hi7⟩ => ⟨g7, ha, cell_putObj_loop hr c0, cell_putObj_loop hr c1, cell_putObj_loop hr c2, cell_putObj_loop hr c3, lo7, by simpa [World.putObj] using hi7⟩) ?assign ?body ?done ?stop
  case assign =>
    rintro l' k W K hsW ⟨hB, hk, f0, f1, f2, f3, f4, z0, z1, u0⟩ hm hK
    have hkl := hm _ rfl
    gi_wp2
    have hb3 := below_new (Below.refl W.heap.size W) (.cells #[.int .i64 (cor l k).1, .int .i64 (cor l k).2, .int .i64 (cor l (k + 1)).1, .int .i64 (cor l (k + 1)).2] 56)
    exact hK _ _ (keeps_of_below hb3) ⟨hB.trans (hb3.mono (by omega)), hk, (hb3.cell (p := ⟨w.heap.size + 1 + 1 + 1, 0, none⟩) (by dsimp only; omega)).trans f0, (hb3.cell (p := ⟨w.heap.size, 0, none⟩) (by dsimp only; omega)).trans f1, (hb3.cell (p := ⟨w.heap.size, 1, none⟩) (by dsimp only; omega)).trans f2, (hb3.cell (p := ⟨w.heap.size + 1, 0, none⟩) (by dsimp only; omega)).trans f3, (hb3.cell (p := ⟨w.heap.size + 1 + 1, 0, none⟩) (by dsimp only; omega)).trans f4, (hb3.frozen (p := ⟨w.heap.size + 1, 0, none⟩) (by dsimp only; omega)).trans z0, (hb3.frozen (p := ⟨w.heap.size + 1 + 1, 0, none⟩) (by dsimp only; omega)).trans z1, u0⟩
      ⟨_, rfl, by simp [go_sem], by simp [go_sem], by simp [go_sem], by simp [go_sem], by first | omega | (simp <;> omega), by first | omega | (simp <;> omega)⟩
  case body =>
    rintro l' k a' W hl hr hsW ⟨hB, hk, f0, f1, f2, f3, f4, z0, z1, u0⟩ ⟨g7, rfl, c0, c1, c2, c3, lo7, hi7⟩ hm
    have hkl := hm _ rfl
    clear hm
    have HA := HBD.out k
    have HB := HBD.out (k + 1)
    have HIY := Lib.hid (inK_yes (l := l) (x := pt) (k := k))
    have HIN := Lib.hid (inK_no (l := l) (x := pt) (k := k))
    have HAN := Lib.hid (anyN_true (f := fun i => onB (cor l i) (cor l (i + 1)) pt) hkl)
    generalize hpa : cor l k = pa at *
    generalize hpb : cor l (k + 1) = pb at *
    have HPA := Lib.hid hpa
    have HPB := Lib.hid hpb
    clear hpa hpb
    cases hon : onB pa pb pt
    case true =>
      have HON := Lib.hid hon
      clear hon
      have hok : onAny l pt = true := HAN.out HON.out
      have HOK := Lib.hid hok
      clear hok
      gi_wp2_with (gi_at_call 104; refine Calls.useR ((on_is _ HA HB hx HON.out).use ?_); intro w1 hb1 hz1 hc1 hf1; have g3 := (hc1 (w.heap.size + 1) 0 (by omega)).trans f3; have g4 := (hf1 (w.heap.size + 1) 0 (by omega)).trans z0)
      exact ⟨(keeps_of_below hb1).trans (KeepsOthers.setCell _ _ _), rfl, HOK.out, below_set (below_tail hb1 hB) (by dsimp only; omega) _, World.cell?_setCell_same' _ _ _ (by rw [g3]; rfl)⟩
    case false =>
      have HON := Lib.hid hon
      clear hon
      gi_wp2_with (gi_at_call 104; refine Calls.useR ((on_is _ HA HB hx HON.out).use ?_); intro w1 hb1 hz1 hc1 hf1)
      replace c0 := (hc1 g7 0 hi7).trans c0
      replace c1 := (hc1 g7 1 hi7).trans c1
      replace c2 := (hc1 g7 2 hi7).trans c2
      replace c3 := (hc1 g7 3 hi7).trans c3
      replace hi7 : g7 < w1.heap.size := Nat.lt_of_lt_of_le hi7 hz1
      replace f1 := (hc1 w.heap.size 0 (by omega)).trans f1
      replace f2 := (hc1 w.heap.size 1 (by omega)).trans f2
      replace f0 := (hc1 (w.heap.size + 1 + 1 + 1) 0 (by omega)).trans f0
      replace f3 := (hc1 (w.heap.size + 1) 0 (by omega)).trans f3
      replace f4 := (hc1 (w.heap.size + 1 + 1) 0 (by omega)).trans f4
      replace z0 := (hf1 (w.heap.size + 1) 0 (by omega)).trans z0
      replace z1 := (hf1 (w.heap.size + 1 + 1) 0 (by omega)).trans z1
      replace hB := below_tail hb1 hB
      have hkw := keeps_of_below hb1
      clear hc1 hf1 hb1
      refine wpR_region_inv mixed (by kernel_rfl) (by kernel_rfl) (WhereI pa pb g7 w1 (.slice sa l.length cap) (.agg #[.int .i64 pt.1, .int .i64 pt.2]) undef (.pointer (some ⟨w.heap.size, 0, none⟩)) (.pointer (some ⟨w.heap.size + 1, 0, none⟩)) (.pointer (some ⟨w.heap.size + 1 + 1, 0, none⟩)) undef (.pointer (some ⟨g7, 0, none⟩)) (.slice sa l.length cap) (.func (.func 103) #[] #[.pointer (some ⟨w.heap.size + 1 + 1 + 1, 0, none⟩)]) (.int .i64 k) (.agg #[.int .i64 pa.1, .int .i64 pa.2, .int .i64 pb.1, .int .i64 pb.2]) (.agg #[.int .i64 pa.1, .int .i64 pa.2, .int .i64 pb.1, .int .i64 pb.2]) (.agg #[.int .i64 pt.1, .int .i64 pt.2]) (.bool false) undef undef undef undef undef undef undef undef undef undef undef undef undef undef undef undef undef undef undef undef undef undef undef undef undef undef undef undef undef) ?h0 ?hstep ?hend
      case h0 =>
        unfold WhereI
        exact ⟨_, _, _, _, _, _, rfl, below_draw (Below.refl _ _), fun h => no_false h.symm, fun h => no_false h.symm, fun h => no_false h.symm, fun h => no_false h.symm, fun h => no_false h.symm, fun h => no_false h.symm, fun h => no_false h.symm, fun h => no_false h.symm, fun h _ => no_false h.symm⟩
      case hstep =>
        intro d a x hI i hi hdi hed
        unfold WhereI at hI
        obtain ⟨u8, u9, u17, u18, u19, u20, rfl, fb, f0, f1, f2, f3, fc0, fx0, fc1, fx1, fp01⟩ := hI
        have hi' : i < 8 := hi
        clear hi
        rcases (show i = 0 ∨ i = 1 ∨ i = 2 ∨ i = 3 ∨ i = 4 ∨ i = 5 ∨ i = 6 ∨ i = 7 by omega) with rfl | rfl | rfl | rfl | rfl | rfl | rfl | rfl
        · skip
          clear hed
          refine wpOp_step rfl (fun K hK => ?_)
          go_simp
          (try (refine hK _ _ ?_; clear hK K))
          unfold WhereI
          refine ⟨_, _, _, _, _, _, rfl, ?_⟩
          exact ⟨fb,
            (by first | exact fun _ => rfl | exact f0),
            f1,
            f2,
            f3,
            fc0,
            fx0,
            fc1,
            fx1,
            fp01⟩
        · skip
          have e0 : d 0 = true := done_of hed (by kernel_rfl)
          clear hed
          have g0 := f0 e0
          subst g0
          have k0 : x.cell? ⟨g7, 0, none⟩ = some (.int .i64 pa.1) := (fb.cell (p := ⟨g7, 0, none⟩) hi7).trans c0
          have k1 : x.cell? ⟨g7, 1, none⟩ = some (.int .i64 pa.2) := (fb.cell (p := ⟨g7, 1, none⟩) hi7).trans c1
          refine wpOp_step rfl (fun K hK => ?_)
          go_simp
          (try (refine hK _ _ ?_; clear hK K))
          unfold WhereI
          refine ⟨_, _, _, _, _, _, rfl, ?_⟩
          exact ⟨fb,
            (by first | exact fun _ => rfl | exact f0),
            (by first | exact fun _ => rfl | exact f1),
            f2,
            f3,
            fc0,
            fx0,
            fc1,
            fx1,
            fp01⟩
        · skip
          clear hed
          refine wpOp_step rfl (fun K hK => ?_)
          go_simp
          (try (refine hK _ _ ?_; clear hK K))
          unfold WhereI
          refine ⟨_, _, _, _, _, _, rfl, ?_⟩
          exact ⟨fb,
            f0,
            f1,
            (by first | exact fun _ => rfl | exact f2),
            f3,
            fc0,
            fx0,
            fc1,
            fx1,
            fp01⟩
        · skip
          have e2 : d 2 = true := done_of hed (by kernel_rfl)
          clear hed
          have g2 := f2 e2
          subst g2
          have k0 : x.cell? ⟨g7, 2, none⟩ = some (.int .i64 pb.1) := (fb.cell (p := ⟨g7, 2, none⟩) hi7).trans c2
          have k1 : x.cell? ⟨g7, 3, none⟩ = some (.int .i64 pb.2) := (fb.cell (p := ⟨g7, 3, none⟩) hi7).trans c3
          refine wpOp_step rfl (fun K hK => ?_)
          go_simp
          (try (refine hK _ _ ?_; clear hK K))
          unfold WhereI
          refine ⟨_, _, _, _, _, _, rfl, ?_⟩
          exact ⟨fb,
            f0,
            f1,
            (by first | exact fun _ => rfl | exact f2),
            (by first | exact fun _ => rfl | exact f3),
            fc0,
            fx0,
            fc1,
            fx1,
            fp01⟩
        · skip
          clear hed
          have hb3 : Below x.heap.size x (x.alloc (.cells #[.int .i64 0, .int .i64 0] 32)) := (Below.refl _ _).alloc (Nat.le_refl _) _
          have hblk : Hid ((x.alloc (.cells #[.int .i64 0, .int .i64 0] 32)).heap[x.heap.size]? = some (.cells #[.int .i64 0, .int .i64 0] 32 (0, 0))) := World.alloc_heap_new _ _
          refine wpOp_step rfl (fun K hK => ?_)
          go_simp
          replace hblk := hblk.out
          (try (refine hK _ _ ?_; clear hK K))
          unfold WhereI
          refine ⟨_, _, _, _, _, _, rfl, ?_⟩
          exact ⟨below_tail hb3 fb,
            f0,
            f1,
            f2,
            f3,
            fun _ => rfl,
            fun _ => ⟨_, fun i => if i = 0 then .int .i64 0 else .int .i64 0, rfl, fb.size, hblk, fun h => not_both (fc0 h) hdi⟩,
            fc1,
            fun hal => let ⟨g, cs, e, hg, hx, h⟩ := fx1 hal; ⟨g, cs, e, hg, blk_below hx hb3, h⟩,
            fun _ h => (fun e => by obtain ⟨g2, _, e2, _, hx2, _⟩ := fx1 h; rw [e2] at e; cases e; exact absurd (Array.getElem?_eq_some_iff.1 hx2).1 (Nat.lt_irrefl _))⟩
        · skip
          clear hed
          have hb3 : Below x.heap.size x (x.alloc (.cells #[.int .i64 0, .int .i64 0] 32)) := (Below.refl _ _).alloc (Nat.le_refl _) _
          have hblk : Hid ((x.alloc (.cells #[.int .i64 0, .int .i64 0] 32)).heap[x.heap.size]? = some (.cells #[.int .i64 0, .int .i64 0] 32 (0, 0))) := World.alloc_heap_new _ _
          refine wpOp_step rfl (fun K hK => ?_)
          go_simp
          replace hblk := hblk.out
          (try (refine hK _ _ ?_; clear hK K))
          unfold WhereI
          refine ⟨_, _, _, _, _, _, rfl, ?_⟩
          exact ⟨below_tail hb3 fb,
            f0,
            f1,
            f2,
            f3,
            fc0,
            fun hal => let ⟨g, cs, e, hg, hx, h⟩ := fx0 hal; ⟨g, cs, e, hg, blk_below hx hb3, h⟩,
            fun _ => rfl,
            fun _ => ⟨_, fun i => if i = 0 then .int .i64 0 else .int .i64 0, rfl, fb.size, hblk, fun h => not_both (fc1 h) hdi⟩,
            fun h _ => (fun e => by obtain ⟨g2, _, e2, _, hx2, _⟩ := fx0 h; rw [e2] at e; cases e; exact absurd (Array.getElem?_eq_some_iff.1 hx2).1 (Nat.lt_irrefl _))⟩
        · skip
          have e1 : d 1 = true := done_of hed (by kernel_rfl)
          have e4 : d 4 = true := done_of hed (by kernel_rfl)
          clear hed
          have g1 := f1 e1
          subst g1
          obtain ⟨g, cs, e7, hg, hx, h13⟩ := fx0 e4
          subst e7
          have k0 := cell_of_block hx 0
          have l0 := frozen_of_block hx 0
          have k1 := cell_of_block hx 1
          have l1 := frozen_of_block hx 1
          simp at k0 k1
          have hgr : Hid (x.grownBy ((x.setCell ⟨g, 0, none⟩ (.int .i64 pa.1)).setCell ⟨g, 1, none⟩ (.int .i64 pa.2)) (some g)) := (grown_trans (grown_set x ⟨g, 0, none⟩ (.int .i64 pa.1)) (grown_set (x.setCell ⟨g, 0, none⟩ (.int .i64 pa.1)) ⟨g, 1, none⟩ (.int .i64 pa.2)))
          have hblk : Hid (((x.setCell ⟨g, 0, none⟩ (.int .i64 pa.1)).setCell ⟨g, 1, none⟩ (.int .i64 pa.2)).heap[g]? = some (.cells #[.int .i64 pa.1, .int .i64 pa.2] 32 (0, 0))) := (block_set (block_set hx 0 _) 1 _)
          have HX := Lib.hid hx
          clear hx
          refine wpOp_step rfl (fun K hK => ?_)
          go_simp
          replace hgr := hgr.out
          replace hblk := hblk.out
          (try (refine hK _ _ ?_; clear hK K))
          unfold WhereI
          refine ⟨_, _, _, _, _, _, rfl, ?_⟩
          exact ⟨below_grow fb hgr (fun k hk => by cases hk; exact hg),
            f0,
            (by first | exact fun _ => rfl | exact f1),
            f2,
            f3,
            fun _ => e4,
            fun _ => ⟨g, fun i => if i = 0 then .int .i64 pa.1 else .int .i64 pa.2, rfl, hg, hblk, fun _ => ⟨rfl, rfl⟩⟩,
            fc1,
            fun hal => let ⟨g2, cs, e, hg2, hx2, h⟩ := fx1 hal; ⟨g2, cs, e, hg2, (hgr.block g2 (Array.getElem?_eq_some_iff.1 hx2).1 (fun e2 => (fp01 e4 hal) (by cases e2; exact e.symm))).trans hx2, h⟩,
            fp01⟩
        · skip
          have e3 : d 3 = true := done_of hed (by kernel_rfl)
          have e5 : d 5 = true := done_of hed (by kernel_rfl)
          clear hed
          have g3 := f3 e3
          subst g3
          obtain ⟨g, cs, e7, hg, hx, h13⟩ := fx1 e5
          subst e7
          have k0 := cell_of_block hx 0
          have l0 := frozen_of_block hx 0
          have k1 := cell_of_block hx 1
          have l1 := frozen_of_block hx 1
          simp at k0 k1
          have hgr : Hid (x.grownBy ((x.setCell ⟨g, 0, none⟩ (.int .i64 pb.1)).setCell ⟨g, 1, none⟩ (.int .i64 pb.2)) (some g)) := (grown_trans (grown_set x ⟨g, 0, none⟩ (.int .i64 pb.1)) (grown_set (x.setCell ⟨g, 0, none⟩ (.int .i64 pb.1)) ⟨g, 1, none⟩ (.int .i64 pb.2)))
          have hblk : Hid (((x.setCell ⟨g, 0, none⟩ (.int .i64 pb.1)).setCell ⟨g, 1, none⟩ (.int .i64 pb.2)).heap[g]? = some (.cells #[.int .i64 pb.1, .int .i64 pb.2] 32 (0, 0))) := (block_set (block_set hx 0 _) 1 _)
          have HX := Lib.hid hx
          clear hx
          refine wpOp_step rfl (fun K hK => ?_)
          go_simp
          replace hgr := hgr.out
          replace hblk := hblk.out
          (try (refine hK _ _ ?_; clear hK K))
          unfold WhereI
          refine ⟨_, _, _, _, _, _, rfl, ?_⟩
          exact ⟨below_grow fb hgr (fun k hk => by cases hk; exact hg),
            f0,
            f1,
            f2,
            (by first | exact fun _ => rfl | exact f3),
            fc0,
            fun hal => let ⟨g2, cs, e, hg2, hx2, h⟩ := fx0 hal; ⟨g2, cs, e, hg2, (hgr.block g2 (Array.getElem?_eq_some_iff.1 hx2).1 (fun e2 => (fp01 hal e5) (by cases e2; exact e))).trans hx2, h⟩,
            fun _ => e5,
            fun _ => ⟨g, fun i => if i = 0 then .int .i64 pb.1 else .int .i64 pb.2, rfl, hg, hblk, fun _ => ⟨rfl, rfl⟩⟩,
            fp01⟩
      case hend =>
        intro d a x hI hall
        unfold WhereI at hI
        obtain ⟨u8, u9, u17, u18, u19, u20, rfl, fb, f0, f1, f2, f3, fc0, fx0, fc1, fx1, fp01⟩ := hI
        have hl0 := hall 0 (show 0 < 8 by omega)
        have hl1 := hall 1 (show 1 < 8 by omega)
        have hl2 := hall 2 (show 2 < 8 by omega)
        have hl3 := hall 3 (show 3 < 8 by omega)
        have hl4 := hall 4 (show 4 < 8 by omega)
        have hl5 := hall 5 (show 5 < 8 by omega)
        have hl6 := hall 6 (show 6 < 8 by omega)
        have hl7 := hall 7 (show 7 < 8 by omega)
        have g0 := f0 hl0
        subst g0
        have g1 := f1 hl1
        subst g1
        have g2 := f2 hl2
        subst g2
        have g3 := f3 hl3
        subst g3
        obtain ⟨ga, cs, e7, hga, hxa, h13⟩ := fx0 hl4
        obtain ⟨ex0, ex1⟩ := h13 hl6
        rw [ex0, ex1] at hxa
        subst e7
        clear h13 ex0 ex1
        obtain ⟨gb, cs, e7, hgb, hxb, h13⟩ := fx1 hl5
        obtain ⟨ex0, ex1⟩ := h13 hl7
        rw [ex0, ex1] at hxb
        subst e7
        clear h13 ex0 ex1
        have hne : ga ≠ gb := fun e => fp01 hl4 hl5 (by rw [e])
        have hsza := (Array.getElem?_eq_some_iff.1 hxa).1
        have qa0 := cell_of_block hxa 0
        have qfa0 := frozen_of_block hxa 0
        have qa1 := cell_of_block hxa 1
        have qfa1 := frozen_of_block hxa 1
        simp at qa0 qa1
        clear hxa
        have hszb := (Array.getElem?_eq_some_iff.1 hxb).1
        have qb0 := cell_of_block hxb 0
        have qfb0 := frozen_of_block hxb 0
        have qb1 := cell_of_block hxb 1
        have qfb1 := frozen_of_block hxb 1
        simp at qb0 qb1
        clear hxb
        clear f0 f1 f2 f3 fc0 fx0 fc1 fx1 fp01
        clear hall hl0 hl1 hl2 hl3 hl4 hl5 hl6 hl7
        dsimp only
        replace hB := below_tail fb hB
        replace hkw := keeps_step fb hkw
        replace f0 := (fb.cell (p := ⟨w.heap.size + 1 + 1 + 1, 0, none⟩) (by dsimp only; omega)).trans f0
        replace f1 := (fb.cell (p := ⟨w.heap.size, 0, none⟩) (by dsimp only; omega)).trans f1
        replace f2 := (fb.cell (p := ⟨w.heap.size, 1, none⟩) (by dsimp only; omega)).trans f2
        replace f3 := (fb.cell (p := ⟨w.heap.size + 1, 0, none⟩) (by dsimp only; omega)).trans f3
        replace f4 := (fb.cell (p := ⟨w.heap.size + 1 + 1, 0, none⟩) (by dsimp only; omega)).trans f4
        replace z0 := (fb.frozen (p := ⟨w.heap.size + 1, 0, none⟩) (by dsimp only; omega)).trans z0
        replace z1 := (fb.frozen (p := ⟨w.heap.size + 1 + 1, 0, none⟩) (by dsimp only; omega)).trans z1
        have hzz : w.heap.size + 4 ≤ w1.heap.size := by omega
        have na0 : w.heap.size ≠ ga := by omega
        have ma0 : ga ≠ w.heap.size := by omega
        have na1 : w.heap.size + 1 ≠ ga := by omega
        have ma1 : ga ≠ w.heap.size + 1 := by omega
        have na2 : w.heap.size + 1 + 1 ≠ ga := by omega
        have ma2 : ga ≠ w.heap.size + 1 + 1 := by omega
        have na3 : w.heap.size + 1 + 1 + 1 ≠ ga := by omega
        have ma3 : ga ≠ w.heap.size + 1 + 1 + 1 := by omega
        have nb0 : w.heap.size ≠ gb := by omega
        have mb0 : gb ≠ w.heap.size := by omega
        have nb1 : w.heap.size + 1 ≠ gb := by omega
        have mb1 : gb ≠ w.heap.size + 1 := by omega
        have nb2 : w.heap.size + 1 + 1 ≠ gb := by omega
        have mb2 : gb ≠ w.heap.size + 1 + 1 := by omega
        have nb3 : w.heap.size + 1 + 1 + 1 ≠ gb := by omega
        have mb3 : gb ≠ w.heap.size + 1 + 1 + 1 := by omega
        have hne2 : gb ≠ ga := fun e => hne e.symm
        have hzw : w.heap.size + 4 ≤ x.heap.size := by omega
        have hga4 : w.heap.size + 4 ≤ ga := by omega
        have hgb4 : w.heap.size + 4 ≤ gb := by omega
        clear fb hl hr hsW hga hgb
        have hin := inK_bd l pt k
        obtain ⟨iv, hiv⟩ : ∃ iv, inK l pt k = iv := ⟨_, rfl⟩
        rw [hiv] at f4 hin
        have HIV := Lib.hid hiv
        clear hiv
        obtain ⟨wr, hwr⟩ : ∃ wr, wr = x := ⟨_, rfl⟩
        subst hwr
        by_cases hs : pb.2 < pa.2
        · skip
          by_cases hc1 : pb.2 ≤ pt.2
          · by_cases hc2 : pt.2 < pa.2
            · obtain ⟨t, ht⟩ : ∃ t, turn pb pa pt = t := ⟨_, rfl⟩
              have HT := Lib.hid ht
              clear ht
              by_cases hc3 : 0 < t
              · skip
                have HH : Hid (hitB pa pb pt = true) := by unfold Hid; rw [hit_lo hs, decide_eq_true hc1, decide_eq_true hc2, HT.out, decide_eq_true hc3]; rfl
                skip
                gi_wp2_with (gi_at_call 66; refine Calls.useR ((turn_is _ HB HA hx HT.out).use ?_); intro w2 hb2 hz2 hc2 hf2; (try simp at hz2); have G0 := hc2 (w.heap.size + 1 + 1 + 1) 0 (by first | omega | (simp <;> omega)); have G1 := hc2 (w.heap.size) 0 (by first | omega | (simp <;> omega)); have G2 := hc2 (w.heap.size) 1 (by first | omega | (simp <;> omega)); have G3 := hc2 (w.heap.size + 1) 0 (by first | omega | (simp <;> omega)); have G4 := hc2 (w.heap.size + 1 + 1) 0 (by first | omega | (simp <;> omega)); have G5 := hf2 (w.heap.size + 1) 0 (by first | omega | (simp <;> omega)); have G6 := hf2 (w.heap.size + 1 + 1) 0 (by first | omega | (simp <;> omega)); clear hc2 hf2)
                have hink : inK l pt (k + 1) = -iv := by rw [HIY.out HH.out, HIV.out]
                exact ⟨by (repeat' (first | exact KeepsOthers.refl _ | assumption | refine KeepsOthers.trans ?_ (KeepsOthers.setCell _ _ _) | refine keeps_step (by assumption) ?_)), by (repeat' (first | exact Below.refl _ _ | assumption | refine below_new ?_ _ | refine below_draw ?_ | refine below_tail (by assumption) ?_ | refine below_set ?_ (by first | omega | (simp <;> omega)) _)), by omega, ((World.cell?_setCell_other _ _ _ _ (by simp)).trans (G0.trans ((cell_set4 na3 nb3).trans f0))), ((World.cell?_setCell_other _ _ _ _ (by simp)).trans (G1.trans ((cell_set4 na0 nb0).trans f1))), ((World.cell?_setCell_other _ _ _ _ (by simp)).trans (G2.trans ((cell_set4 na0 nb0).trans f2))), ((World.cell?_setCell_other _ _ _ _ (by simp)).trans (G3.trans ((cell_set4 na1 nb1).trans f3))), by rw [hink]; exact (World.cell?_setCell_same' _ _ _ (by rw [(G4.trans ((cell_set4 na2 nb2).trans f4))]; rfl)), ((World.frozen?_setCell _ _ _ _).trans (G5.trans ((frozen_set4 na1 nb1).trans z0))), ((World.frozen?_setCell _ _ _ _).trans (G6.trans ((frozen_set4 na2 nb2).trans z1))), fun j hj => (Nat.lt_succ_iff_lt_or_eq.1 hj).elim (u0.out j) (fun e => by subst e; rw [HPA.out, HPB.out]; exact HON.out)⟩
              · skip
                have HH : Hid (hitB pa pb pt = false) := by unfold Hid; rw [hit_lo hs, decide_eq_true hc1, decide_eq_true hc2, HT.out, decide_eq_false hc3]; rfl
                skip
                gi_wp2_with (gi_at_call 66; refine Calls.useR ((turn_is _ HB HA hx HT.out).use ?_); intro w2 hb2 hz2 hc2 hf2; (try simp at hz2); have G0 := hc2 (w.heap.size + 1 + 1 + 1) 0 (by first | omega | (simp <;> omega)); have G1 := hc2 (w.heap.size) 0 (by first | omega | (simp <;> omega)); have G2 := hc2 (w.heap.size) 1 (by first | omega | (simp <;> omega)); have G3 := hc2 (w.heap.size + 1) 0 (by first | omega | (simp <;> omega)); have G4 := hc2 (w.heap.size + 1 + 1) 0 (by first | omega | (simp <;> omega)); have G5 := hf2 (w.heap.size + 1) 0 (by first | omega | (simp <;> omega)); have G6 := hf2 (w.heap.size + 1 + 1) 0 (by first | omega | (simp <;> omega)); clear hc2 hf2)
                have hink : inK l pt (k + 1) = iv := by rw [HIN.out HH.out, HIV.out]
                exact ⟨by (repeat' (first | exact KeepsOthers.refl _ | assumption | refine KeepsOthers.trans ?_ (KeepsOthers.setCell _ _ _) | refine keeps_step (by assumption) ?_)), by (repeat' (first | exact Below.refl _ _ | assumption | refine below_new ?_ _ | refine below_draw ?_ | refine below_tail (by assumption) ?_ | refine below_set ?_ (by first | omega | (simp <;> omega)) _)), by omega, (G0.trans ((cell_set4 na3 nb3).trans f0)), (G1.trans ((cell_set4 na0 nb0).trans f1)), (G2.trans ((cell_set4 na0 nb0).trans f2)), (G3.trans ((cell_set4 na1 nb1).trans f3)), by rw [hink]; exact (G4.trans ((cell_set4 na2 nb2).trans f4)), (G5.trans ((frozen_set4 na1 nb1).trans z0)), (G6.trans ((frozen_set4 na2 nb2).trans z1)), fun j hj => (Nat.lt_succ_iff_lt_or_eq.1 hj).elim (u0.out j) (fun e => by subst e; rw [HPA.out, HPB.out]; exact HON.out)⟩
            · skip
              have HH : Hid (hitB pa pb pt = false) := by unfold Hid; rw [hit_lo hs, decide_eq_true hc1, decide_eq_false hc2]; rfl
              skip
              gi_wp2
              have hink : inK l pt (k + 1) = iv := by rw [HIN.out HH.out, HIV.out]
              exact ⟨by (repeat' (first | exact KeepsOthers.refl _ | assumption | refine KeepsOthers.trans ?_ (KeepsOthers.setCell _ _ _) | refine keeps_step (by assumption) ?_)), by (repeat' (first | exact Below.refl _ _ | assumption | refine below_new ?_ _ | refine below_draw ?_ | refine below_tail (by assumption) ?_ | refine below_set ?_ (by first | omega | (simp <;> omega)) _)), by omega, ((cell_set4 na3 nb3).trans f0), ((cell_set4 na0 nb0).trans f1), ((cell_set4 na0 nb0).trans f2), ((cell_set4 na1 nb1).trans f3), by rw [hink]; exact ((cell_set4 na2 nb2).trans f4), ((frozen_set4 na1 nb1).trans z0), ((frozen_set4 na2 nb2).trans z1), fun j hj => (Nat.lt_succ_iff_lt_or_eq.1 hj).elim (u0.out j) (fun e => by subst e; rw [HPA.out, HPB.out]; exact HON.out)⟩
          · skip
            have hc1 : ¬ pb.2 ≤ pt.2 := hc1
            have HH : Hid (hitB pa pb pt = false) := by unfold Hid; rw [hit_lo hs, decide_eq_false hc1]; rfl
            skip
            gi_wp2
            have hink : inK l pt (k + 1) = iv := by rw [HIN.out HH.out, HIV.out]
            exact ⟨by (repeat' (first | exact KeepsOthers.refl _ | assumption | refine KeepsOthers.trans ?_ (KeepsOthers.setCell _ _ _) | refine keeps_step (by assumption) ?_)), by (repeat' (first | exact Below.refl _ _ | assumption | refine below_new ?_ _ | refine below_draw ?_ | refine below_tail (by assumption) ?_ | refine below_set ?_ (by first | omega | (simp <;> omega)) _)), by omega, ((cell_set4 na3 nb3).trans f0), ((cell_set4 na0 nb0).trans f1), ((cell_set4 na0 nb0).trans f2), ((cell_set4 na1 nb1).trans f3), by rw [hink]; exact ((cell_set4 na2 nb2).trans f4), ((frozen_set4 na1 nb1).trans z0), ((frozen_set4 na2 nb2).trans z1), fun j hj => (Nat.lt_succ_iff_lt_or_eq.1 hj).elim (u0.out j) (fun e => by subst e; rw [HPA.out, HPB.out]; exact HON.out)⟩
        · skip
          by_cases hc1 : pa.2 ≤ pt.2
          · by_cases hc2 : pt.2 < pb.2
            · obtain ⟨t, ht⟩ : ∃ t, turn pa pb pt = t := ⟨_, rfl⟩
              have HT := Lib.hid ht
              clear ht
              by_cases hc3 : 0 < t
              · skip
                have HH : Hid (hitB pa pb pt = true) := by unfold Hid; rw [hit_hi hs, decide_eq_true hc1, decide_eq_true hc2, HT.out, decide_eq_true hc3]; rfl
                skip
                gi_wp2_with (gi_at_call 66; refine Calls.useR ((turn_is _ HA HB hx HT.out).use ?_); intro w2 hb2 hz2 hc2 hf2; (try simp at hz2); have G0 := hc2 (w.heap.size + 1 + 1 + 1) 0 (by first | omega | (simp <;> omega)); have G1 := hc2 (w.heap.size) 0 (by first | omega | (simp <;> omega)); have G2 := hc2 (w.heap.size) 1 (by first | omega | (simp <;> omega)); have G3 := hc2 (w.heap.size + 1) 0 (by first | omega | (simp <;> omega)); have G4 := hc2 (w.heap.size + 1 + 1) 0 (by first | omega | (simp <;> omega)); have G5 := hf2 (w.heap.size + 1) 0 (by first | omega | (simp <;> omega)); have G6 := hf2 (w.heap.size + 1 + 1) 0 (by first | omega | (simp <;> omega)); clear hc2 hf2)
                have hink : inK l pt (k + 1) = -iv := by rw [HIY.out HH.out, HIV.out]
                exact ⟨by (repeat' (first | exact KeepsOthers.refl _ | assumption | refine KeepsOthers.trans ?_ (KeepsOthers.setCell _ _ _) | refine keeps_step (by assumption) ?_)), by (repeat' (first | exact Below.refl _ _ | assumption | refine below_new ?_ _ | refine below_draw ?_ | refine below_tail (by assumption) ?_ | refine below_set ?_ (by first | omega | (simp <;> omega)) _)), by omega, ((World.cell?_setCell_other _ _ _ _ (by simp)).trans (G0.trans f0)), ((World.cell?_setCell_other _ _ _ _ (by simp)).trans (G1.trans f1)), ((World.cell?_setCell_other _ _ _ _ (by simp)).trans (G2.trans f2)), ((World.cell?_setCell_other _ _ _ _ (by simp)).trans (G3.trans f3)), by rw [hink]; exact (World.cell?_setCell_same' _ _ _ (by rw [(G4.trans f4)]; rfl)), ((World.frozen?_setCell _ _ _ _).trans (G5.trans z0)), ((World.frozen?_setCell _ _ _ _).trans (G6.trans z1)), fun j hj => (Nat.lt_succ_iff_lt_or_eq.1 hj).elim (u0.out j) (fun e => by subst e; rw [HPA.out, HPB.out]; exact HON.out)⟩
              · skip
                have HH : Hid (hitB pa pb pt = false) := by unfold Hid; rw [hit_hi hs, decide_eq_true hc1, decide_eq_true hc2, HT.out, decide_eq_false hc3]; rfl
                skip
                gi_wp2_with (gi_at_call 66; refine Calls.useR ((turn_is _ HA HB hx HT.out).use ?_); intro w2 hb2 hz2 hc2 hf2; (try simp at hz2); have G0 := hc2 (w.heap.size + 1 + 1 + 1) 0 (by first | omega | (simp <;> omega)); have G1 := hc2 (w.heap.size) 0 (by first | omega | (simp <;> omega)); have G2 := hc2 (w.heap.size) 1 (by first | omega | (simp <;> omega)); have G3 := hc2 (w.heap.size + 1) 0 (by first | omega | (simp <;> omega)); have G4 := hc2 (w.heap.size + 1 + 1) 0 (by first | omega | (simp <;> omega)); have G5 := hf2 (w.heap.size + 1) 0 (by first | omega | (simp <;> omega)); have G6 := hf2 (w.heap.size + 1 + 1) 0 (by first | omega | (simp <;> omega)); clear hc2 hf2)
                have hink : inK l pt (k + 1) = iv := by rw [HIN.out HH.out, HIV.out]
                exact ⟨by (repeat' (first | exact KeepsOthers.refl _ | assumption | refine KeepsOthers.trans ?_ (KeepsOthers.setCell _ _ _) | refine keeps_step (by assumption) ?_)), by (repeat' (first | exact Below.refl _ _ | assumption | refine below_new ?_ _ | refine below_draw ?_ | refine below_tail (by assumption) ?_ | refine below_set ?_ (by first | omega | (simp <;> omega)) _)), by omega, (G0.trans f0), (G1.trans f1), (G2.trans f2), (G3.trans f3), by rw [hink]; exact (G4.trans f4), (G5.trans z0), (G6.trans z1), fun j hj => (Nat.lt_succ_iff_lt_or_eq.1 hj).elim (u0.out j) (fun e => by subst e; rw [HPA.out, HPB.out]; exact HON.out)⟩
            · skip
              have HH : Hid (hitB pa pb pt = false) := by unfold Hid; rw [hit_hi hs, decide_eq_true hc1, decide_eq_false hc2]; rfl
              skip
              gi_wp2
              have hink : inK l pt (k + 1) = iv := by rw [HIN.out HH.out, HIV.out]
              exact ⟨by (repeat' (first | exact KeepsOthers.refl _ | assumption | refine KeepsOthers.trans ?_ (KeepsOthers.setCell _ _ _) | refine keeps_step (by assumption) ?_)), by (repeat' (first | exact Below.refl _ _ | assumption | refine below_new ?_ _ | refine below_draw ?_ | refine below_tail (by assumption) ?_ | refine below_set ?_ (by first | omega | (simp <;> omega)) _)), by omega, f0, f1, f2, f3, by rw [hink]; exact f4, z0, z1, fun j hj => (Nat.lt_succ_iff_lt_or_eq.1 hj).elim (u0.out j) (fun e => by subst e; rw [HPA.out, HPB.out]; exact HON.out)⟩
          · skip
            have hc1 : ¬ pa.2 ≤ pt.2 := hc1
            have HH : Hid (hitB pa pb pt = false) := by unfold Hid; rw [hit_hi hs, decide_eq_false hc1]; rfl
            skip
            gi_wp2
            have hink : inK l pt (k + 1) = iv := by rw [HIN.out HH.out, HIV.out]
            exact ⟨by (repeat' (first | exact KeepsOthers.refl _ | assumption | refine KeepsOthers.trans ?_ (KeepsOthers.setCell _ _ _) | refine keeps_step (by assumption) ?_)), by (repeat' (first | exact Below.refl _ _ | assumption | refine below_new ?_ _ | refine below_draw ?_ | refine below_tail (by assumption) ?_ | refine below_set ?_ (by first | omega | (simp <;> omega)) _)), by omega, f0, f1, f2, f3, by rw [hink]; exact f4, z0, z1, fun j hj => (Nat.lt_succ_iff_lt_or_eq.1 hj).elim (u0.out j) (fun e => by subst e; rw [HPA.out, HPB.out]; exact HON.out)⟩
  case start => exact ⟨hB0, Nat.zero_le _, e6, e0, e1, e2, e4, e3, e5, fun j hj => absurd hj (by omega)⟩
  case done =>
    rintro m D W hm hD ⟨hB, hk, f0, f1, f2, f3, f4, z0, z1, u0⟩ hK
    cases hm
    have hwv : whereP l pt = inK l pt l.length := by rw [HW.out, if_neg]; rw [show onAny l pt = false from anyN_false u0.out]; simp
    have HWV := Lib.hid hwv
    clear hwv u0
    have hK' : (W.setCell ⟨w.heap.size + 1, 0, none⟩ (.int .i64 (inK l pt l.length))).heap[D]? = some (.deferred (some [])) := by rw [Below.heap_setCell _ _ _ _ (by dsimp only; omega)]; exact hK
    gi_wp2
    refine ⟨by simp, .inl ⟨_, _, rfl, run_takeDeferred hK', ?_⟩⟩
    have hP := below_obj (B := w.heap.size) (D := D) (W := (W.setCell ⟨w.heap.size + 1, 0, none⟩ (.int .i64 (inK l pt l.length)))) (.deferred none) (by omega) (by simpa using hB.size)
    have hr3 : ((W.setCell ⟨w.heap.size + 1, 0, none⟩ (.int .i64 (inK l pt l.length))).putObj D (.deferred none)).cell? ⟨w.heap.size + 1, 0, none⟩ = some (.int .i64 (inK l pt l.length)) := by
      refine cell_putObj_def ⟨_, hK'⟩ ?_
      exact World.cell?_setCell_same' _ _ _ (by rw [f3]; rfl)
    exact ⟨.int .i64 (inK l pt l.length), by simp [results, Try.f59, go_sem, hr3], by rw [HWV.out], (below_set hB (by dsimp only; omega) _).trans hP⟩
  case stop =>
    rintro D cd k W hD ⟨rfl, e2, hB, f3⟩ hK
    have hwv : whereP l pt = 0 := by rw [HW.out, if_pos e2]
    have HWV := Lib.hid hwv
    clear hwv e2
    gi_wp2
    refine ⟨by simp, .inl ⟨_, _, rfl, run_takeDeferred hK, ?_⟩⟩
    have hP := below_obj (B := w.heap.size) (D := D) (W := W) (.deferred none) (by omega) hB.size
    have hr3 : (W.putObj D (.deferred none)).cell? ⟨w.heap.size + 1, 0, none⟩ = some (.int .i64 0) := cell_putObj_def ⟨_, hK⟩ f3
    exact ⟨.int .i64 0, by simp [results, Try.f59, go_sem, hr3], by rw [HWV.out], hB.trans hP⟩

end Go.Proofs.Ythiemglckmociaa
