/- The law TopPlots returns true. Conditions: the list lies in memory as said. -/
import Derived.Test.YthiemglckmociaaTopPlotP
import Derived.Test.YthiemglckmociaaPtTriMW
import Derived.Test.YthiemglckmociaaPtHullA
import Derived.Test.YthiemglckmociaaPtSplitF
import Derived.Test.YthiemglckmociaaPtKnown
import Derived.Test.YthiemglckmociaaPlotAreasL
import Derived.Deep.DeepCutAuto
import Derived.Shelf.RegionOpenPlain
namespace Go.Proofs.Ythiemglckmociaa
open Go.RowKit

theorem Hull_is {v : Value} {l h : List (Int × Int)} {e : Int} (w : World) (hp : PairsAt w v l) (hh : hullL l = h) (he : hullE l = e) : GivesPts Try.prog 35 #[v] w h e := by subst hh he; exact Hull_calls v l w hp
theorem Split_is {v : Value} {l p q : List (Int × Int)} {i j e : Int} (w : World) (h : PairsAt w v l) (h1 : splL l i j = p) (h2 : splL l j i = q) (he : splE l i j = e) : GivesTwo Try.prog 36 #[v, .int .i64 i, .int .i64 j] w p q e := by subst h1 h2 he; exact Split_calls v l i j w h
theorem GivesTwo.calls {P : Program} {f : FuncId} {args : Array Value} {w : World} {l1 l2 : List (Int × Int)} {err : Int} (h : GivesTwo P f args w l1 l2 err) : Calls P f args w fun e w' => ∃ v1 v2, e = .returned (.tuple #[v1, v2, .int .i64 err]) ∧ PairsAt w' v1 l1 ∧ PairsAt w' v2 l2 ∧ Below w.heap.size w w' := h
def triL : List (Int × Int) := [(0, 0), (2, 0), (0, 2)]
theorem tri_side : sideP triL (1, 1) = 0 ∧ sideE triL (1, 1) = 0 := by decide +kernel
theorem pairs3 {w : World} {t : TypeId} {n : Nat} (hn : n = w.heap.size) : PairsAt (w.alloc (.cells #[.int .i64 0, .int .i64 0, .int .i64 2, .int .i64 0, .int .i64 0, .int .i64 2] t)) (.slice (some ⟨n, 0, none⟩) 3 3) triL := by
  subst hn
  refine ⟨_, 3, rfl, by decide, by decide, fun i hi => ⟨w.heap.size, 0, rfl, by simp, ?_⟩⟩
  have hi : i < 3 := hi
  rcases (show i = 0 ∨ i = 1 ∨ i = 2 by omega) with e | e | e <;> subst e <;> simp [go_sem, triL, gi]
theorem side_same {l p : List (Int × Int)} {x : Int × Int} {e : Int} (hl : validF l = 0) (hp : validF p = 0) (h : sideE l x = e) : sideE p x = e := by
  rw [← h]; unfold sideE; rw [if_pos hl, if_pos hp]
theorem side_zero {l : List (Int × Int)} {x : Int × Int} (h : sideE l x ≠ 0) : sideP l x = 0 := by unfold sideP; rw [if_neg h]
theorem side_where {l : List (Int × Int)} {x : Int × Int} (h : sideE l x = 0) : sideP l x = whereP l x := by unfold sideP; rw [if_pos h]
/-- What the law asks of two parts. -/
theorem parts_facts {l : List (Int × Int)} {i j : Int} (h : splE l i j = 0) : PartsIn l (splL l i j) (splL l j i) ∧ twiceF (splL l i j) + twiceF (splL l j i) = twiceF l := by
  by_cases h0 : numF l i j = 0
  · obtain ⟨hv, i1, i2, j1, j2⟩ := numF_ok h0
    obtain ⟨i', rfl⟩ := Int.eq_ofNat_of_zero_le i1
    obtain ⟨j', rfl⟩ := Int.eq_ofNat_of_zero_le j1
    have hi : i' < l.length := by omega
    have hj : j' < l.length := by omega
    have V := valid_iff.1 hv
    obtain ⟨c1, c2⟩ := spl_two V hi hj
    cases e : splitB l i' j'
    · rw [(c1 e).2.2] at h; cases h
    · obtain ⟨a1, a2, a3⟩ := c2 e
      obtain ⟨-, -, -, -, -, b3⟩ := split_law V hi hj e
      rw [a1, a2]
      exact ⟨parts_in V hi hj e, b3⟩
  · rw [(spl_none h0).2.2] at h; exact absurd h h0
/-- How the sides of a point compare: in both parts and in the plot. -/
theorem sides_facts {l p q : List (Int × Int)} {x : Int × Int} {e : Int} (hl : validF l = 0) (h : PartsIn l p q) (he : sideE l x = e) :
    (sideP p x = 1 → sideP q x ≠ 1 ∧ sideP l x = 1) ∧ (sideP q x = 1 → sideP l x = 1) ∧ (sideP l x = 1 → sideP p x < 0 → ¬ sideP q x < 0) ∧ (sideP l x = 1 → e = 0) := by
  have e1 := side_same hl (valid_iff.2 h.vp) he
  have e2 := side_same hl (valid_iff.2 h.vq) he
  by_cases hz : e = 0
  · subst hz
    rw [side_where he, side_where e1, side_where e2]
    exact ⟨fun k => ⟨fun c => h.one x ⟨k, c⟩, h.inp x k⟩, h.inq x, fun k a b => h.some x k ⟨a, b⟩, fun _ => rfl⟩
  · have z0 := side_zero (l := l) (x := x) (by rw [he]; exact hz)
    have z1 := side_zero (l := p) (x := x) (by rw [e1]; exact hz)
    have z2 := side_zero (l := q) (x := x) (by rw [e2]; exact hz)
    rw [z0, z1, z2]
    exact ⟨fun k => (by cases k), fun k => (by cases k), fun k => (by cases k), fun k => (by cases k)⟩
/-- How many of the first k triangles have the point inside, as the program counts. -/
def timesP (T : List (List (Int × Int))) (x : Int × Int) : Nat → Nat
  | 0 => 0
  | k + 1 => timesP T x k + if sideP (T.getD k []) x = 1 then 1 else 0
theorem timesP_le (T : List (List (Int × Int))) (x : Int × Int) : ∀ k, timesP T x k ≤ k
  | 0 => Nat.le_refl _
  | k + 1 => by have := timesP_le T x k; unfold timesP; split <;> omega
theorem timesP_ok {l : List (Int × Int)} {T : List (List (Int × Int))} {x : Int × Int} {e : Int} (hl : validF l = 0) (t : TriOK l T) (he : sideE l x = e) : timesP T x T.length ≤ 1 ∧ (timesP T x T.length ≠ 0 → sideP l x = 1) := by
  by_cases hz : e = 0
  · subst hz
    have h : ∀ k, k ≤ T.length → timesP T x k = timesK T x k := by
      intro k
      induction k with
      | zero => intro _; rfl
      | succ k ih =>
        intro hk
        have ek : T.getD k [] = T[k] := by simp [show k < T.length by omega]
        unfold timesP timesK
        rw [ih (by omega), ek, side_where (side_same hl (valid_iff.2 (t.each _ (List.getElem_mem _)).2) he)]
    rw [h _ (Nat.le_refl _), side_where he]
    exact times_ok (valid_iff.1 hl) t x
  · have h : ∀ k, k ≤ T.length → timesP T x k = 0 := by
      intro k
      induction k with
      | zero => intro _; rfl
      | succ k ih =>
        intro hk
        have ek : T.getD k [] = T[k] := by simp [show k < T.length by omega]
        unfold timesP
        rw [ih (by omega), ek, side_zero (by rw [side_same hl (valid_iff.2 (t.each _ (List.getElem_mem _)).2) he]; exact hz)]
        rfl
    rw [h _ (Nat.le_refl _)]
    exact ⟨by omega, fun c => absurd rfl c⟩
theorem tri_cases {l : List (Int × Int)} (hv : validF l = 0) : triE l = 0 ∨ triE l = 8 := by
  unfold triE
  rw [if_pos hv]
  split
  · exact .inr rfl
  · exact .inl rfl
theorem tri_parts {l : List (Int × Int)} (h : triE l = 0) : NoLine (cor l) l.length := by
  unfold triE at h
  split at h
  · rename_i h1
    split at h
    · cases h
    · rename_i h2
      have hv := valid_iff.1 h1
      exact noLine_of (by have := hv.lo; omega) (by simpa using h2)
  · rename_i h1; exact absurd h h1
theorem sumK_bd {T : List (List (Int × Int))} (h : ∀ u ∈ T, 0 ≤ twiceF u ∧ twiceF u ≤ 320000000) : ∀ k : Nat, k ≤ T.length → 0 ≤ sumK T k ∧ sumK T k ≤ k * 320000000
  | 0, _ => by simp [sumK]
  | k + 1, hk => by
    have ih := sumK_bd h k (by omega)
    have e : T.getD k [] = T[k] := by simp [show k < T.length by omega]
    have := h T[k] (List.getElem_mem _)
    rw [sumK_succ (by omega), e]
    omega
theorem twice_bd {u : List (Int × Int)} (h : Valid u) : 0 ≤ twiceF u ∧ twiceF u ≤ 320000000 := by
  have hb := areaK_bd h.bd u.length
  have h10 := h.hi
  unfold twiceF
  rw [if_pos (valid_iff.2 h)]
  omega
theorem top_hull {l : List (Int × Int)} (h : validF l = 0) : hullE l = 0 ∧ validF (hullL l) = 0 ∧ twiceF l ≤ twiceF (hullL l) ∧ 1 ≤ twiceF l := by
  have hv := valid_iff.1 h
  obtain ⟨h1, h2, -⟩ := convex_law hv
  have e : hullL l = hullF (sortC l) := by unfold hullL; rw [if_pos h1]
  rw [e]
  refine ⟨h1, valid_iff.2 (hull_ok h1).val, h2, ?_⟩
  have hne := hv.area_ne
  unfold twiceF
  rw [if_pos h]
  omega
set_option maxHeartbeats 8000000 in
set_option maxRecDepth 100000 in
theorem topPlots_calls (v : Value) (l : List (Int × Int)) (i j : Int) (x : Int × Int) (w : World) (h : PairsAt w v l) : Gives Try.prog 8 #[v, .agg #[.int .i64 i, .int .i64 j, .int .i64 x.1, .int .i64 x.2]] w (.bool true) := by
  have HP := Lib.hid h
  obtain ⟨sa, cap, rfl, hlc, hcm, -⟩ := h
  unfold Gives
  obtain ⟨b, hb⟩ : ∃ b, decide (40 < (l.length : Int)) = b := ⟨_, rfl⟩
  have HLO := Lib.hid hb
  clear hb
  have HT1 := Lib.hid tri_side.1
  have HT2 := Lib.hid tri_side.2
  go_enter Try.func8, Try.ntmps8
  go_upto_region 1 with (fail)
  have follows := mixed
  obtain ⟨W0, hW0⟩ : ∃ W0, w.alloc (.cells #[.int .i64 i, .int .i64 j, .int .i64 x.1, .int .i64 x.2] 40) = W0 := ⟨_, rfl⟩
  rw [hW0]
  have hB0 : Below w.heap.size w W0 := by rw [← hW0]; (repeat' (first | exact Below.refl _ _ | assumption | refine below_new ?_ _ | refine below_draw ?_ | refine below_tail (by assumption) ?_ | refine below_set ?_ (by first | omega | (simp <;> omega)) _))
  have hs0 : W0.heap.size = w.heap.size + 1 := by rw [← hW0]; simp
  have c0 : W0.cell? ⟨w.heap.size, 0, none⟩ = some (.int .i64 i) := by rw [← hW0]; simp [go_sem]
  have c1 : W0.cell? ⟨w.heap.size, 1, none⟩ = some (.int .i64 j) := by rw [← hW0]; simp [go_sem]
  have c2 : W0.cell? ⟨w.heap.size, 2, none⟩ = some (.int .i64 x.1) := by rw [← hW0]; simp [go_sem]
  have c3 : W0.cell? ⟨w.heap.size, 3, none⟩ = some (.int .i64 x.2) := by rw [← hW0]; simp [go_sem]
  clear hW0
  go_region_held3 (fun w' => w'.cell? ⟨w.heap.size, 0, none⟩ = some (.int .i64 i) ∧ w'.cell? ⟨w.heap.size, 1, none⟩ = some (.int .i64 j) ∧ w'.cell? ⟨w.heap.size, 2, none⟩ = some (.int .i64 x.1) ∧ w'.cell? ⟨w.heap.size, 3, none⟩ = some (.int .i64 x.2)) (go_keep) (fail)
  obtain ⟨W1, hW1⟩ : ∃ W1, (W0.alloc (.cells #[.int .i64 x.1, .int .i64 x.2] 32)).drew = W1 := ⟨_, rfl⟩
  rw [hW1]
  have hB1 : Below w.heap.size w W1 := by rw [← hW1]; (repeat' (first | exact Below.refl _ _ | assumption | refine below_new ?_ _ | refine below_draw ?_ | refine below_tail (by assumption) ?_ | refine below_set ?_ (by first | omega | (simp <;> omega)) _))
  have hs1 : w.heap.size + 1 < W1.heap.size := by rw [← hW1]; simp [hs0]
  have e0 : W1.cell? ⟨w.heap.size + 1, 0, none⟩ = some (.int .i64 x.1) := by rw [← hW1]; simp [go_sem, hs0]
  have e1 : W1.cell? ⟨w.heap.size + 1, 1, none⟩ = some (.int .i64 x.2) := by rw [← hW1]; simp [go_sem, hs0]
  have HCX : Hid (∀ W, Below W1.heap.size W1 W → W.cell? ⟨w.heap.size + 1, 0, none⟩ = some (.int .i64 x.1) ∧ W.cell? ⟨w.heap.size + 1, 1, none⟩ = some (.int .i64 x.2)) := fun W hb => ⟨(hb.cell (p := ⟨w.heap.size + 1, 0, none⟩) hs1).trans e0, (hb.cell (p := ⟨w.heap.size + 1, 1, none⟩) hs1).trans e1⟩
  clear hW1 c0 c1 c2 c3 hs0 hB0 e0 e1
  cases b
  · obtain ⟨e, he⟩ : ∃ e, validF l = e := ⟨_, rfl⟩
    have HE := Lib.hid he
    clear he
    obtain ⟨m, hm⟩ : ∃ m, twiceF l = m := ⟨_, rfl⟩
    have HM := Lib.hid hm
    have hbb := border_bd l
    obtain ⟨bo, hbo⟩ : ∃ m, bordF l = m := ⟨_, rfl⟩
    have HBO := Lib.hid hbo
    rw [hbo] at hbb
    have hib := inside_bd l
    obtain ⟨ins, hin⟩ : ∃ m, insideF l = m := ⟨_, rfl⟩
    have HIN := Lib.hid hin
    rw [hin] at hib
    by_cases hz : e = 0
    · subst hz
      have hpk := pick_eq HE.out
      obtain ⟨t1, t2, t3, t4⟩ := top_hull HE.out
      obtain ⟨hh, hhe⟩ : ∃ hh, hullL l = hh := ⟨_, rfl⟩
      obtain ⟨n, hn⟩ : ∃ n, twiceF hh = n := ⟨_, rfl⟩
      rw [hhe] at t2
      rw [hhe, hm, hn] at t3
      rw [hm] at t4
      rw [hm, hbo, hin] at hpk
      have HH := Lib.hid hhe
      have HN := Lib.hid hn
      have HHE := Lib.hid t1
      have HHV := Lib.hid t2
      obtain ⟨wh, hwh⟩ : ∃ s, sideP l x = s := ⟨_, rfl⟩
      have HW := Lib.hid hwh
      obtain ⟨ex, hex⟩ : ∃ s, sideE l x = s := ⟨_, rfl⟩
      have HSE := Lib.hid hex
      obtain ⟨p, hp⟩ : ∃ p, splL l i j = p := ⟨_, rfl⟩
      obtain ⟨q, hq⟩ : ∃ p, splL l j i = p := ⟨_, rfl⟩
      obtain ⟨sp, hsp⟩ : ∃ p, splE l i j = p := ⟨_, rfl⟩
      have HA := Lib.hid hp
      have HB := Lib.hid hq
      have HS := Lib.hid hsp
      have x1 : (m != 2 * ins + bo - 2) = false := by rw [hpk]; simp
      have x2 : decide (n < m) = false := decide_eq_false (by omega)
      have x3 : decide (m < 1) = false := decide_eq_false (by omega)
      have HV := Lib.hid (valid_iff.1 HE.out)
      have h10 := HV.out.hi
      have hmb := twice_bd HV.out
      rw [hm] at hmb
      clear hm hbo hin t1 t2 t3 t4 hhe hn hwh hex hp hq hsp hpk
      go_upto_if 145 with (first
        | (go_at_call 29; (with_reducible refine (Side_is (x := (1, 1)) _ (pairs3 rfl) HT1.out HT2.out).use ?_); intro w1 hb1 hz1 hc1 hf1; clear hc1 hf1; (try simp at hz1))
        | (go_at_call 17; (with_reducible refine (Long_is _ (HP.out.below (by (repeat' (first | exact Below.refl _ _ | assumption | refine below_new ?_ _ | refine below_draw ?_ | refine below_tail (by assumption) ?_ | refine below_set ?_ (by first | omega | (simp <;> omega)) _)))) HLO.out).use ?_); intro wl hbl hzl hcl hfl; clear hcl hfl)
        | (go_at_call 35; (with_reducible refine (Hull_is _ (HP.out.below (by (repeat' (first | exact Below.refl _ _ | assumption | refine below_new ?_ _ | refine below_draw ?_ | refine below_tail (by assumption) ?_ | refine below_set ?_ (by first | omega | (simp <;> omega)) _)))) HH.out HHE.out).use ?_); intro a6 c6 w6 hb6 hz6 hc6 hf6 HO6; have HP6 := Lib.hid (own_pairs HO6.out); clear hc6 hf6 HO6)
        | (go_at_call 23; (with_reducible refine (Twice_is _ (HP6.out.below (by (repeat' (first | exact Below.refl _ _ | assumption | refine below_new ?_ _ | refine below_draw ?_ | refine below_tail (by assumption) ?_ | refine below_set ?_ (by first | omega | (simp <;> omega)) _)))) HN.out HHV.out).use ?_); intro w7 hb7 hz7 hc7 hf7; clear hc7 hf7; obtain ⟨y0, y1⟩ := HCX.out w7 (by (repeat' (first | exact Below.refl _ _ | assumption | refine below_new ?_ _ | refine below_draw ?_ | refine below_tail (by assumption) ?_ | refine below_set ?_ (by first | omega | (simp <;> omega)) _))); have hx7 : w.heap.size + 1 < w7.heap.size := (by omega))
        | (go_at_call 23; (with_reducible refine (Twice_is _ (HP.out.below (by (repeat' (first | exact Below.refl _ _ | assumption | refine below_new ?_ _ | refine below_draw ?_ | refine below_tail (by assumption) ?_ | refine below_set ?_ (by first | omega | (simp <;> omega)) _)))) HM.out HE.out).use ?_); intro w2 hb2 hz2 hc2 hf2; clear hc2 hf2)
        | (go_at_call 19; (with_reducible refine (OnBorder_is _ (HP.out.below (by (repeat' (first | exact Below.refl _ _ | assumption | refine below_new ?_ _ | refine below_draw ?_ | refine below_tail (by assumption) ?_ | refine below_set ?_ (by first | omega | (simp <;> omega)) _)))) HBO.out HE.out).use ?_); intro w3 hb3 hz3 hc3 hf3; clear hc3 hf3)
        | (go_at_call 21; (with_reducible refine (Inside_is _ (HP.out.below (by (repeat' (first | exact Below.refl _ _ | assumption | refine below_new ?_ _ | refine below_draw ?_ | refine below_tail (by assumption) ?_ | refine below_set ?_ (by first | omega | (simp <;> omega)) _)))) HIN.out HE.out).use ?_); intro w4 hb4 hz4 hc4 hf4; clear hc4 hf4)
        | (go_at_call 29; (with_reducible refine (Side_is (x := x) _ (HP.out.below (by (repeat' (first | exact Below.refl _ _ | assumption | refine below_new ?_ _ | refine below_draw ?_ | refine below_tail (by assumption) ?_ | refine below_set ?_ (by first | omega | (simp <;> omega)) _)))) HW.out HSE.out).use ?_); intro w8 hb8 hz8 hc8 hf8; clear hc8 hf8)
        | (go_at_call 36; (with_reducible refine (Split_is _ (HP.out.below (by (repeat' (first | exact Below.refl _ _ | assumption | refine below_new ?_ _ | refine below_draw ?_ | refine below_tail (by assumption) ?_ | refine below_set ?_ (by first | omega | (simp <;> omega)) _)))) HA.out HB.out HS.out).calls.mono ?_); rintro e w9 ⟨va, vb, rfl, hpa, hpb, hb9⟩; have HPA := Lib.hid hpa; have HPB := Lib.hid hpb; have hz9 := hb9.size; clear hpa hpb))
      have HMW9 : Below W1.heap.size W1 w9 := by (repeat' (first | exact Below.refl _ _ | assumption | refine below_new ?_ _ | refine below_draw ?_ | refine below_tail (by assumption) ?_ | refine below_set ?_ (by first | omega | (simp <;> omega)) _))
      have HMEET9 : Hid (Below w.heap.size w w9 ∧ Below W1.heap.size W1 w9) := ⟨by (repeat' (first | exact Below.refl _ _ | assumption | refine below_new ?_ _ | refine below_draw ?_ | refine below_tail (by assumption) ?_ | refine below_set ?_ (by first | omega | (simp <;> omega)) _)), HMW9⟩
      go_cut [] (fun wc => Hid (Below w.heap.size w wc ∧ Below W1.heap.size W1 wc))
      case first =>
        as_aux_lemma =>
          by_cases hz : sp = 0
          · subst hz
            obtain ⟨hpi, htw⟩ := parts_facts HS.out
            rw [HA.out, HB.out] at hpi htw
            rw [HM.out] at htw
            have hinn := hpi.inside HV.out
            rw [HIN.out] at hinn
            obtain ⟨r1, r2, r3, r4⟩ := sides_facts HE.out hpi HSE.out
            rw [HW.out] at r1 r2 r3 r4
            have HVP := Lib.hid (valid_iff.2 hpi.vp)
            have HVQ := Lib.hid (valid_iff.2 hpi.vq)
            have HSPE := Lib.hid (side_same HE.out HVP.out HSE.out)
            have HSQE := Lib.hid (side_same HE.out HVQ.out HSE.out)
            have hbp := twice_bd hpi.vp
            have hbq := twice_bd hpi.vq
            have hip := inside_bd p
            have hiq := inside_bd q
            obtain ⟨tp, htp⟩ : ∃ m, twiceF p = m := ⟨_, rfl⟩
            obtain ⟨tq, htq⟩ : ∃ m, twiceF q = m := ⟨_, rfl⟩
            obtain ⟨ip, hipe⟩ : ∃ m, insideF p = m := ⟨_, rfl⟩
            obtain ⟨iq, hiqe⟩ : ∃ m, insideF q = m := ⟨_, rfl⟩
            obtain ⟨s, hs⟩ : ∃ m, sideP p x = m := ⟨_, rfl⟩
            obtain ⟨t, ht⟩ : ∃ m, sideP q x = m := ⟨_, rfl⟩
            have HTP := Lib.hid htp
            have HTQ := Lib.hid htq
            have HIP := Lib.hid hipe
            have HIQ := Lib.hid hiqe
            have HSP := Lib.hid hs
            have HSQ := Lib.hid ht
            rw [htp] at htw hbp
            rw [htq] at htw hbq
            rw [hipe] at hinn hip
            rw [hiqe] at hinn hiq
            rw [hs] at r1 r3
            rw [ht] at r1 r2 r3
            have y3 : ((tp + tq) != m) = false := by rw [htw]; simp
            have y4 : decide (ins < ip + iq) = false := decide_eq_false (by omega)
            have HR1 := Lib.hid r1
            have HR2 := Lib.hid r2
            have HR3 := Lib.hid r3
            have HR4 := Lib.hid r4
            clear htp htq hipe hiqe hs ht hpi r1 r2 r3 r4 htw hinn
            go_upto_region 29 with (first
              | (go_at_call 23; (with_reducible refine (Twice_is _ (HPA.out.below (by (repeat' (first | exact Below.refl _ _ | assumption | refine below_new ?_ _ | refine below_draw ?_ | refine below_tail (by assumption) ?_ | refine below_set ?_ (by first | omega | (simp <;> omega)) _)))) HTP.out HVP.out).use ?_); intro wa1 hba1 hza1 hca1 hfa1; clear hca1 hfa1)
              | (go_at_call 23; (with_reducible refine (Twice_is _ (HPB.out.below (by (repeat' (first | exact Below.refl _ _ | assumption | refine below_new ?_ _ | refine below_draw ?_ | refine below_tail (by assumption) ?_ | refine below_set ?_ (by first | omega | (simp <;> omega)) _)))) HTQ.out HVQ.out).use ?_); intro wa2 hba2 hza2 hca2 hfa2; clear hca2 hfa2)
              | (go_at_call 21; (with_reducible refine (Inside_is _ (HPA.out.below (by (repeat' (first | exact Below.refl _ _ | assumption | refine below_new ?_ _ | refine below_draw ?_ | refine below_tail (by assumption) ?_ | refine below_set ?_ (by first | omega | (simp <;> omega)) _)))) HIP.out HVP.out).use ?_); intro wa3 hba3 hza3 hca3 hfa3; clear hca3 hfa3)
              | (go_at_call 21; (with_reducible refine (Inside_is _ (HPB.out.below (by (repeat' (first | exact Below.refl _ _ | assumption | refine below_new ?_ _ | refine below_draw ?_ | refine below_tail (by assumption) ?_ | refine below_set ?_ (by first | omega | (simp <;> omega)) _)))) HIQ.out HVQ.out).use ?_); intro wa4 hba4 hza4 hca4 hfa4; clear hca4 hfa4; obtain ⟨y0, y1⟩ := HCX.out wa4 (by (repeat' (first | exact Below.refl _ _ | assumption | refine below_new ?_ _ | refine below_draw ?_ | refine below_tail (by assumption) ?_ | refine below_set ?_ (by first | omega | (simp <;> omega)) _))); have hxa4 : w.heap.size + 1 < wa4.heap.size := (by omega))
              | (go_at_call 29; (with_reducible refine (Side_is (x := x) _ (HPA.out.below (by (repeat' (first | exact Below.refl _ _ | assumption | refine below_new ?_ _ | refine below_draw ?_ | refine below_tail (by assumption) ?_ | refine below_set ?_ (by first | omega | (simp <;> omega)) _)))) HSP.out HSPE.out).use ?_); intro wa5 hba5 hza5 hca5 hfa5; clear hca5 hfa5; obtain ⟨y0, y1⟩ := HCX.out wa5 (by (repeat' (first | exact Below.refl _ _ | assumption | refine below_new ?_ _ | refine below_draw ?_ | refine below_tail (by assumption) ?_ | refine below_set ?_ (by first | omega | (simp <;> omega)) _))); have hxa5 : w.heap.size + 1 < wa5.heap.size := (by omega))
              | (go_at_call 29; (with_reducible refine (Side_is (x := x) _ (HPB.out.below (by (repeat' (first | exact Below.refl _ _ | assumption | refine below_new ?_ _ | refine below_draw ?_ | refine below_tail (by assumption) ?_ | refine below_set ?_ (by first | omega | (simp <;> omega)) _)))) HSQ.out HSQE.out).use ?_); intro wa6 hba6 hza6 hca6 hfa6; clear hca6 hfa6))
            have HMW1 : Below W1.heap.size W1 wa6 := by (repeat' (first | exact Below.refl _ _ | assumption | refine below_new ?_ _ | refine below_draw ?_ | refine below_tail (by assumption) ?_ | refine below_set ?_ (by first | omega | (simp <;> omega)) _))
            have HMEET : Hid (Below w.heap.size w wa6 ∧ Below W1.heap.size W1 wa6) := ⟨by (repeat' (first | exact Below.refl _ _ | assumption | refine below_new ?_ _ | refine below_draw ?_ | refine below_tail (by assumption) ?_ | refine below_set ?_ (by first | omega | (simp <;> omega)) _)), HMW1⟩
            obtain ⟨r1, r2, r3, r4⟩ : _ ∧ _ ∧ _ ∧ _ := ⟨HR1.out, HR2.out, HR3.out, HR4.out⟩
            clear y0 y1 HMW1
            by_cases k1 : s = 1
            · as_aux_lemma =>
                obtain ⟨r1, r2⟩ := r1 k1
                have r4 := r4 r2
                have s1 : (s == 1) = true := by simpa using (show s = 1 by omega)
                have s2 : (t == 1) = false := by simpa using (show ¬ t = 1 by omega)
                have s3 : (ex == 0) = true := by simpa using (show ex = 0 by omega)
                have s4 : (wh == 1) = true := by simpa using (show wh = 1 by omega)
                have s5 : (wh != 1) = false := by simpa using (show wh = 1 by omega)
                have s6 : decide (s < 0) = false := decide_eq_false (by omega)
                clear r1 r3
                (try clear r2)
                (try clear r4)
                (try clear k4)
                (try clear k3)
                (try clear k2)
                (try clear k1)
                go_wp2_with fail
                go_meet
                case rel => exact HMEET
            · by_cases k2 : t = 1
              · by_cases k3 : s < 0
                · as_aux_lemma =>
                    have r2 := r2 k2
                    have r4 := r4 r2
                    have r3 := r3 r2 k3
                    have s1 : (s == 1) = false := by simpa using (show ¬ s = 1 by omega)
                    have s2 : (t == 1) = true := by simpa using (show t = 1 by omega)
                    have s3 : (ex == 0) = true := by simpa using (show ex = 0 by omega)
                    have s4 : (wh == 1) = true := by simpa using (show wh = 1 by omega)
                    have s5 : (wh != 1) = false := by simpa using (show wh = 1 by omega)
                    have s6 : decide (s < 0) = true := decide_eq_true (by omega)
                    have s7 : decide (t < 0) = false := decide_eq_false (by omega)
                    clear r1 r3
                    (try clear r2)
                    (try clear r4)
                    (try clear k4)
                    (try clear k3)
                    (try clear k2)
                    (try clear k1)
                    go_wp2_with fail
                    go_meet
                    case rel => exact HMEET
                · as_aux_lemma =>
                    have r2 := r2 k2
                    have r4 := r4 r2
                    have s1 : (s == 1) = false := by simpa using (show ¬ s = 1 by omega)
                    have s2 : (t == 1) = true := by simpa using (show t = 1 by omega)
                    have s3 : (ex == 0) = true := by simpa using (show ex = 0 by omega)
                    have s4 : (wh == 1) = true := by simpa using (show wh = 1 by omega)
                    have s5 : (wh != 1) = false := by simpa using (show wh = 1 by omega)
                    have s6 : decide (s < 0) = false := decide_eq_false (by omega)
                    clear r1 r3
                    (try clear r2)
                    (try clear r4)
                    (try clear k4)
                    (try clear k3)
                    (try clear k2)
                    (try clear k1)
                    go_wp2_with fail
                    go_meet
                    case rel => exact HMEET
              · by_cases k3 : wh = 1
                · by_cases k4 : s < 0
                  · as_aux_lemma =>
                      have r4 := r4 k3
                      have r3 := r3 k3 k4
                      have s1 : (s == 1) = false := by simpa using (show ¬ s = 1 by omega)
                      have s2 : (t == 1) = false := by simpa using (show ¬ t = 1 by omega)
                      have s3 : (ex == 0) = true := by simpa using (show ex = 0 by omega)
                      have s4 : (wh == 1) = true := by simpa using (show wh = 1 by omega)
                      have s5 : (wh != 1) = false := by simpa using (show wh = 1 by omega)
                      have s6 : decide (s < 0) = true := decide_eq_true (by omega)
                      have s7 : decide (t < 0) = false := decide_eq_false (by omega)
                      clear r1 r3
                      (try clear r2)
                      (try clear r4)
                      (try clear k4)
                      (try clear k3)
                      (try clear k2)
                      (try clear k1)
                      go_wp2_with fail
                      go_meet
                      case rel => exact HMEET
                  · as_aux_lemma =>
                      have r4 := r4 k3
                      have s1 : (s == 1) = false := by simpa using (show ¬ s = 1 by omega)
                      have s2 : (t == 1) = false := by simpa using (show ¬ t = 1 by omega)
                      have s3 : (ex == 0) = true := by simpa using (show ex = 0 by omega)
                      have s4 : (wh == 1) = true := by simpa using (show wh = 1 by omega)
                      have s5 : (wh != 1) = false := by simpa using (show wh = 1 by omega)
                      have s6 : decide (s < 0) = false := decide_eq_false (by omega)
                      clear r1 r3
                      (try clear r2)
                      (try clear r4)
                      (try clear k4)
                      (try clear k3)
                      (try clear k2)
                      (try clear k1)
                      go_wp2_with fail
                      go_meet
                      case rel => exact HMEET
                · by_cases k4 : ex = 0
                  · as_aux_lemma =>
                      have s1 : (s == 1) = false := by simpa using (show ¬ s = 1 by omega)
                      have s2 : (t == 1) = false := by simpa using (show ¬ t = 1 by omega)
                      have s3 : (ex == 0) = true := by simpa using (show ex = 0 by omega)
                      have s4 : (wh == 1) = false := by simpa using (show ¬ wh = 1 by omega)
                      have s5 : (wh != 1) = true := by simpa using (show ¬ wh = 1 by omega)
                      clear r1 r3
                      (try clear r2)
                      (try clear r4)
                      (try clear k4)
                      (try clear k3)
                      (try clear k2)
                      (try clear k1)
                      go_wp2_with fail
                      go_meet
                      case rel => exact HMEET
                  · as_aux_lemma =>
                      have s1 : (s == 1) = false := by simpa using (show ¬ s = 1 by omega)
                      have s2 : (t == 1) = false := by simpa using (show ¬ t = 1 by omega)
                      have s3 : (ex == 0) = false := by simpa using (show ¬ ex = 0 by omega)
                      have s4 : (wh == 1) = false := by simpa using (show ¬ wh = 1 by omega)
                      have s5 : (wh != 1) = true := by simpa using (show ¬ wh = 1 by omega)
                      clear r1 r3
                      (try clear r2)
                      (try clear r4)
                      (try clear k4)
                      (try clear k3)
                      (try clear k2)
                      (try clear k1)
                      go_wp2_with fail
                      go_meet
                      case rel => exact HMEET
          · have h1 : (sp == 0) = false := by simpa using hz
            clear hz
            go_wp2_with fail
            go_meet
            case rel => exact HMEET9
      case rest =>
        as_aux_lemma =>
          obtain ⟨hbw, hbw1⟩ := hcut.out
          clear hcut HMEET9 HMW9 hb9 hb8 hb7 hb6 hb4 hb3 hb2 hbl hb1 hzl hz1 hz2 hz3 hz4 hz6 hz7 hz8 hz9 y0 y1 x1 x2 x3 hbb hib HPA HPB HA HB HS
          have hsw : w.heap.size + 1 < wc.heap.size := Nat.lt_of_lt_of_le hs1 hbw1.size
          rcases tri_cases HE.out with ht | ht
          · have HTE := Lib.hid ht
            have HNC := Lib.hid (tri_parts ht)
            clear ht
            go_wp2_with (go_at_call 37; refine (Triangles_calls _ l _ (HP.out.below (by (repeat' (first | exact Below.refl _ _ | assumption | refine below_new ?_ _ | refine below_draw ?_ | refine below_tail (by assumption) ?_ | refine below_set ?_ (by first | omega | (simp <;> omega)) _))))).mono ?_; rintro e1 w10 ⟨v10, T, rfl, ht10, -, hr10, hb10⟩; rw [HTE.out] at ht10 ⊢; have hit := ht10 rfl; have hTn := hit.len; have HTO := Lib.hid (hit.ok HV.out HNC.out); have htr := hr10.tris; obtain ⟨ta, tcap, rfl, htc, htm, -⟩ := id htr; have HT10 := Lib.hid htr; have hlen10 := hb10.size; clear hit hr10 htr ht10)
            have hBB1 : Below W1.heap.size W1 w10 := hbw1.trans (hb10.mono hbw1.size)
            have hBB : Below w.heap.size w w10 := hbw.trans (hb10.mono hbw.size)
            have HEACH := Lib.hid HTO.out.each
            have HSUM := Lib.hid (are_sum HV.out HNC.out HTO.out)
            rw [HM.out] at HSUM
            have HTI := Lib.hid (timesP_ok HE.out HTO.out HSE.out)
            rw [HW.out] at HTI
            have HBDT : Hid (∀ u ∈ T, 0 ≤ twiceF u ∧ twiceF u ≤ 320000000) := fun u hu => twice_bd (HEACH.out u hu).2
            clear hbw hbw1 hb10
            go_loopw [37, 38, 39] (fun s c i wr => ∃ k : Nat, k ≤ T.length ∧ i = .int .i64 k ∧ s = .int .i64 (sumK T k) ∧ c = .int .i64 (timesP T x k : Nat) ∧ Below w.heap.size w wr ∧ Below W1.heap.size W1 wr ∧ Below w10.heap.size w10 wr) (fun _ _ i _ => T.length - (intOf i).toNat)
            case atStart => exact ⟨0, Nat.zero_le _, rfl, rfl, rfl, hBB, hBB1, Below.refl _ _⟩
            case round =>
              clear hBB hBB1
              obtain ⟨k, hk, rfl, rfl, rfl, hbw, hbw1, hbw10⟩ := hrel
              have hsk := sumK_bd HBDT.out k hk
              have htk := timesP_le T x k
              by_cases hlt : k < T.length
              · have hg : decide ((k : Int) < (T.length : Int)) = true := decide_eq_true (by omega)
                obtain ⟨a0, c0, e0, -, -, hcs⟩ := HT10.out
                obtain ⟨bb, u, rfl, hbb, hcu, hpu⟩ := hcs k hlt
                cases e0
                have hcr := (hbw10.cell (p := ⟨bb, k, none⟩) hbb).trans hcu
                have hbr : bb < wr.heap.size := Nat.lt_of_lt_of_le hbb hbw10.size
                have HPU := Lib.hid (hpu.below hbw10)
                have ek : T.getD k [] = T[k] := by simp [hlt]
                have hmem := List.getElem_mem hlt
                have HUV : Hid (validF (T.getD k []) = 0) := valid_iff.2 (by rw [ek]; exact (HEACH.out _ hmem).2)
                have hbt : 0 ≤ twiceF (T.getD k []) ∧ twiceF (T.getD k []) ≤ 320000000 := by rw [ek]; exact HBDT.out _ hmem
                have HSS := Lib.hid (sumK_succ hlt)
                have HTS : Hid (timesP T x (k + 1) = timesP T x k + if sideP (T.getD k []) x = 1 then 1 else 0) := rfl
                have HUE := Lib.hid (side_same HE.out HUV.out HSE.out)
                obtain ⟨tw, htw⟩ : ∃ t, twiceF (T.getD k []) = t := ⟨_, rfl⟩
                have HTW := Lib.hid htw
                rw [htw] at hbt
                obtain ⟨sd, hsd⟩ : ∃ t, sideP (T.getD k []) x = t := ⟨_, rfl⟩
                have HSD := Lib.hid hsd
                rw [hsd] at HTS
                obtain ⟨sm, hsm⟩ : ∃ s, sumK T k = s := ⟨_, rfl⟩
                have HSK := Lib.hid hsm
                rw [hsm] at hsk ⊢
                obtain ⟨ti, hti⟩ : ∃ s, timesP T x k = s := ⟨_, rfl⟩
                have HTK := Lib.hid hti
                rw [hti] at htk ⊢
                clear htw hsd hsm hti hcs hpu ek hmem hcu
                go_upto_region 39 with (go_at_call 23; (with_reducible refine (Twice_is _ (HPU.out.below (by (repeat' (first | exact Below.refl _ _ | assumption | refine below_new ?_ _ | refine below_draw ?_ | refine below_tail (by assumption) ?_ | refine below_set ?_ (by first | omega | (simp <;> omega)) _)))) HTW.out HUV.out).use ?_); intro w11 hb11 hz11 hc11 hf11; have hcr2 := (hc11 bb k hbr).trans hcr; clear hc11 hf11)
                have hW11 : Below w.heap.size w w11 := hbw.trans (hb11.mono hbw.size)
                have hW1b : Below W1.heap.size W1 w11 := hbw1.trans (hb11.mono hbw1.size)
                have hW10 : Below w10.heap.size w10 w11 := hbw10.trans (hb11.mono hbw10.size)
                have HPV := Lib.hid (HPU.out.below hb11)
                obtain ⟨y0, y1⟩ := HCX.out w11 hW1b
                have q0 := fun d os => cell_regrown y0 d os
                have q1 := fun d os => cell_regrown y1 d os
                have q2 := fun d os => cell_regrown hcr2 d os
                clear hcr hcr2 y0 y1 hb11 hbw hbw1 hbw10
                by_cases hs1 : sd = 1
                · have z1 : (sd == 1) = true := by simpa using hs1
                  have HTS2 : Hid (timesP T x (k + 1) = ti + 1) := by unfold Hid; rw [HTS.out, HTK.out, if_pos hs1]
                  clear hs1
                  as_aux_lemma =>
                    refine region_q mixed (by kernel_rfl) ?_
                    repeat (go_big_quiet_step ((go_at_call 29; exact Calls.regrown_of (Side_is (x := x) _ (HPV.out.below (below_regrown _ _ _)) HSD.out HUE.out))))
                    refine wpQuiet_nil ?_
                    intro wq hbq
                    clear q0 q1 q2
                    go_wp2_with fail
                    go_roundw
                    case rel => exact ⟨k + 1, by omega, by go_num, by rw [HSS.out, HTW.out, HSK.out], (by rw [HTS2.out]; first | done | go_num), hW11.trans (hbq.mono hW11.size), hW1b.trans (hbq.mono hW1b.size), hW10.trans (hbq.mono hW10.size)⟩
                    case measure => simp [intOf]; omega
                · have z1 : (sd == 1) = false := by simpa using hs1
                  have HTS2 : Hid (timesP T x (k + 1) = ti) := by unfold Hid; rw [HTS.out, HTK.out, if_neg hs1, Nat.add_zero]
                  clear hs1
                  as_aux_lemma =>
                    refine region_q mixed (by kernel_rfl) ?_
                    repeat (go_big_quiet_step ((go_at_call 29; exact Calls.regrown_of (Side_is (x := x) _ (HPV.out.below (below_regrown _ _ _)) HSD.out HUE.out))))
                    refine wpQuiet_nil ?_
                    intro wq hbq
                    clear q0 q1 q2
                    go_wp2_with fail
                    go_roundw
                    case rel => exact ⟨k + 1, by omega, by go_num, by rw [HSS.out, HTW.out, HSK.out], (by rw [HTS2.out]; first | done | go_num), hW11.trans (hbq.mono hW11.size), hW1b.trans (hbq.mono hW1b.size), hW10.trans (hbq.mono hW10.size)⟩
                    case measure => simp [intOf]; omega
              · have hg : decide ((k : Int) < (T.length : Int)) = false := decide_eq_false (by omega)
                obtain rfl : k = T.length := by omega
                rw [HSUM.out]
                obtain ⟨ti, hti⟩ : ∃ s, timesP T x T.length = s := ⟨_, rfl⟩
                rw [hti] at HTI ⊢
                have x4 : ((T.length : Int) == (l.length : Int) - 2) = true := by
                  have : (T.length : Int) = (l.length : Int) - 2 := by omega
                  simpa using this
                have x5 : decide ((ti : Int) ≤ 1) = true := decide_eq_true (by have := HTI.out.1; omega)
                clear hti
                by_cases ht0 : ti = 0
                · have x6 : ((ti : Int) == 0) = true := by simpa using ht0
                  clear ht0 hTn
                  go_wp2_with fail
                  go_ret
                  exact ⟨rfl, hbw⟩
                · have x6 : ((ti : Int) == 0) = false := by simpa using ht0
                  have x7 : (wh == 1) = true := by simpa using HTI.out.2 ht0
                  clear ht0 hTn
                  go_wp2_with fail
                  go_ret
                  exact ⟨rfl, hbw⟩
          · have HTE := Lib.hid ht
            clear ht
            go_wp2_with (go_at_call 37; refine (Triangles_calls _ l _ (HP.out.below (by (repeat' (first | exact Below.refl _ _ | assumption | refine below_new ?_ _ | refine below_draw ?_ | refine below_tail (by assumption) ?_ | refine below_set ?_ (by first | omega | (simp <;> omega)) _))))).mono ?_; rintro e1 w10 ⟨v10, T, rfl, -, -, hr10, hb10⟩; rw [HTE.out]; clear hr10)
            go_ret
            exact ⟨rfl, by (repeat' (first | exact Below.refl _ _ | assumption | refine below_new ?_ _ | refine below_draw ?_ | refine below_tail (by assumption) ?_ | refine below_set ?_ (by first | omega | (simp <;> omega)) _))⟩
    · have h1 : (e == 0) = false := by simpa using hz
      have h2 : (e != 0) = true := by simpa using hz
      clear hz hm hbo hin
      go_wp2_with (first
        | (go_at_call 29; (with_reducible refine (Side_is (x := (1, 1)) _ (pairs3 rfl) HT1.out HT2.out).use ?_); intro w1 hb1 hz1 hc1 hf1; clear hc1 hf1; (try simp at hz1))
        | (go_at_call 17; (with_reducible refine (Long_is _ (HP.out.below (by (repeat' (first | exact Below.refl _ _ | assumption | refine below_new ?_ _ | refine below_draw ?_ | refine below_tail (by assumption) ?_ | refine below_set ?_ (by first | omega | (simp <;> omega)) _)))) HLO.out).use ?_); intro wl hbl hzl hcl hfl; clear hcl hfl)
        | (go_at_call 23; (with_reducible refine (Twice_is _ (HP.out.below (by (repeat' (first | exact Below.refl _ _ | assumption | refine below_new ?_ _ | refine below_draw ?_ | refine below_tail (by assumption) ?_ | refine below_set ?_ (by first | omega | (simp <;> omega)) _)))) HM.out HE.out).use ?_); intro w2 hb2 hz2 hc2 hf2; clear hc2 hf2)
        | (go_at_call 19; (with_reducible refine (OnBorder_is _ (HP.out.below (by (repeat' (first | exact Below.refl _ _ | assumption | refine below_new ?_ _ | refine below_draw ?_ | refine below_tail (by assumption) ?_ | refine below_set ?_ (by first | omega | (simp <;> omega)) _)))) HBO.out HE.out).use ?_); intro w3 hb3 hz3 hc3 hf3; clear hc3 hf3)
        | (go_at_call 21; (with_reducible refine (Inside_is _ (HP.out.below (by (repeat' (first | exact Below.refl _ _ | assumption | refine below_new ?_ _ | refine below_draw ?_ | refine below_tail (by assumption) ?_ | refine below_set ?_ (by first | omega | (simp <;> omega)) _)))) HIN.out HE.out).use ?_); intro w4 hb4 hz4 hc4 hf4; clear hc4 hf4)
        | (go_at_call 27; (with_reducible refine (validate_is _ (HP.out.below (by (repeat' (first | exact Below.refl _ _ | assumption | refine below_new ?_ _ | refine below_draw ?_ | refine below_tail (by assumption) ?_ | refine below_set ?_ (by first | omega | (simp <;> omega)) _)))) HE.out).use ?_); intro w5 hb5 hz5 hc5 hf5; clear hc5 hf5))
      go_ret
      exact ⟨rfl, by (repeat' (first | exact Below.refl _ _ | assumption | refine below_new ?_ _ | refine below_draw ?_ | refine below_tail (by assumption) ?_ | refine below_set ?_ (by first | omega | (simp <;> omega)) _))⟩
  · go_wp2_with (first
      | (go_at_call 29; (with_reducible refine (Side_is (x := (1, 1)) _ (pairs3 rfl) HT1.out HT2.out).use ?_); intro w1 hb1 hz1 hc1 hf1; clear hc1 hf1; (try simp at hz1))
      | (go_at_call 17; (with_reducible refine (Long_is _ (HP.out.below (by (repeat' (first | exact Below.refl _ _ | assumption | refine below_new ?_ _ | refine below_draw ?_ | refine below_tail (by assumption) ?_ | refine below_set ?_ (by first | omega | (simp <;> omega)) _)))) HLO.out).use ?_); intro wl hbl hzl hcl hfl; clear hcl hfl))
    go_ret
    exact ⟨rfl, by (repeat' (first | exact Below.refl _ _ | assumption | refine below_new ?_ _ | refine below_draw ?_ | refine below_tail (by assumption) ?_ | refine below_set ?_ (by first | omega | (simp <;> omega)) _))⟩
end Go.Proofs.Ythiemglckmociaa
