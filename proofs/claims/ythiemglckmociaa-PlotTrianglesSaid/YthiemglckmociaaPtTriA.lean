/- What TrianglesError of the document gives. Conditions: the list lies in memory as said. -/
import Derived.Test.YthiemglckmociaaPtRQuarter
import Derived.Test.YthiemglckmociaaPtCutA
import Derived.Test.YthiemglckmociaaPtNormF
import Derived.Test.YthiemglckmociaaTriG
namespace Go.Proofs.Ythiemglckmociaa
open Go.RowKit

/-- Three corners on one line. -/
def col3 (l : List (Int × Int)) (i k m : Nat) : Bool := turn (gi l (0, 0) i) (gi l (0, 0) k) (gi l (0, 0) m) == 0
def colB (l : List (Int × Int)) : Bool := anyN (fun i => anyN (fun k => anyN (col3 l i k) k) i) l.length
def triE (l : List (Int × Int)) : Int := if validF l = 0 then (if colB l = true then 8 else 0) else validF l
set_option maxHeartbeats 2000000 in
theorem triErr_calls (v : Value) (l : List (Int × Int)) (w : World) (h : PairsAt w v l) : Gives Try.prog 38 #[v] w (.int .i64 (triE l)) := by
  have HP := Lib.hid h
  obtain ⟨sa, cap, rfl, hlc, hcm, -⟩ := h
  have HT : Hid (triE l = if validF l = 0 then (if colB l = true then 8 else 0) else validF l) := rfl
  obtain ⟨e, he⟩ : ∃ e, validF l = e := ⟨_, rfl⟩
  have HE := Lib.hid he
  clear he
  unfold Gives
  by_cases hz : e = 0
  · subst hz
    have hv := valid_iff.1 HE.out
    have h3 := hv.lo
    have h10 := hv.hi
    have HV := Lib.hid hv
    obtain ⟨b, o, rfl, hB, _, _⟩ := HP.out.cellAt (show 0 < l.length by omega)
    clear hv
    go_enter Try.func38, Try.ntmps38
    go_wp2_with (go_at_call 28; (with_reducible refine (rvalidate_is _ (HP.out.below (by (repeat' (first | exact Below.refl _ _ | assumption | refine below_new ?_ _ | refine below_draw ?_ | refine below_tail (by assumption) ?_ | refine below_set ?_ (by first | omega | (simp <;> omega)) _)))) HE.out).use ?_); intro w1 hb1 hz1 hc1 hf1; clear hc1 hf1)
    go_loopw [4] (fun a wr => ∃ k : Nat, k ≤ l.length ∧ a = .int .i64 k ∧ Hid (∀ q, q < k → anyN (fun r => anyN (col3 l q r) r) q = false) ∧ Below w.heap.size w wr) (fun a _ => l.length - (intOf a).toNat)
    case atStart => exact ⟨0, Nat.zero_le _, rfl, fun q hq => absurd hq (by omega), by (repeat' (first | exact Below.refl _ _ | assumption | refine below_new ?_ _ | refine below_draw ?_ | refine below_tail (by assumption) ?_ | refine below_set ?_ (by first | omega | (simp <;> omega)) _))⟩
    case round =>
      obtain ⟨k, hk, rfl, h1, hbw⟩ := hrel
      by_cases hlt : k < l.length
      · have hg : decide ((k : Int) < (l.length : Int)) = true := decide_eq_true (by omega)
        have HK := Lib.hid hbw
        go_wp2_with fail
        go_loopw [5] (fun a wr2 => ∃ r : Nat, r ≤ k ∧ a = .int .i64 r ∧ Hid (∀ q, q < r → anyN (col3 l k q) q = false) ∧ Below w.heap.size w wr2) (fun a _ => k - (intOf a).toNat)
        case atStart => exact ⟨0, Nat.zero_le _, rfl, fun q hq => absurd hq (by omega), hbw⟩
        case round =>
          obtain ⟨r, hr, rfl, h2, hbw2⟩ := hrel
          by_cases hlt2 : r < k
          · have hg2 : decide ((r : Int) < (k : Int)) = true := decide_eq_true (by omega)
            go_wp2_with fail
            go_loopw [6] (fun a wr3 => ∃ m : Nat, m ≤ r ∧ a = .int .i64 m ∧ Hid (∀ q, q < m → col3 l k r q = false) ∧ Below w.heap.size w wr3) (fun a _ => r - (intOf a).toNat)
            case atStart => exact ⟨0, Nat.zero_le _, rfl, fun q hq => absurd hq (by omega), hbw2⟩
            case round =>
              obtain ⟨m, hm, rfl, h4, hbw3⟩ := hrel
              by_cases hlt3 : m < r
              · have hg3 : decide ((m : Int) < (r : Int)) = true := decide_eq_true (by omega)
                obtain ⟨b1, o1, e1, _, a0, a1⟩ := HP.out.cellB hbw3 hlt
                cases e1
                obtain ⟨b1, o1, e1, _, a2, a3⟩ := HP.out.cellB hbw3 (show r < l.length by omega)
                cases e1
                obtain ⟨b1, o1, e1, _, a4, a5⟩ := HP.out.cellB hbw3 (show m < l.length by omega)
                cases e1
                have q0 := fun d os => cell_regrown a0 d os
                have q1 := fun d os => cell_regrown a1 d os
                have q2 := fun d os => cell_regrown a2 d os
                have q3 := fun d os => cell_regrown a3 d os
                have q4 := fun d os => cell_regrown a4 d os
                have q5 := fun d os => cell_regrown a5 d os
                have hi1 : (r : Int) < (l.length : Int) := by omega
                have hi2 : (m : Int) < (l.length : Int) := by omega
                have HA := gi_bd HV.out hlt
                have HB := gi_bd HV.out (show r < l.length by omega)
                have HC := gi_bd HV.out (show m < l.length by omega)
                obtain ⟨t, ht⟩ : ∃ t, turn (gi l (0, 0) k) (gi l (0, 0) r) (gi l (0, 0) m) = t := ⟨_, rfl⟩
                have HTT := Lib.hid ht
                clear ht a0 a1 a2 a3 a4 a5
                cases hd : (t == 0)
                · have HD : Hid (col3 l k r m = false) := by unfold Hid col3; rw [HTT.out]; exact hd
                  go_wp2_with fail
                  refine region_q mixed (by kernel_rfl) ?_
                  repeat (go_big_quiet_step ((go_at_call 89; exact Calls.regrown_of (rturn_is _ HA HB HC HTT.out))))
                  refine wpQuiet_nil ?_
                  intro wq hbq
                  clear q0 q1 q2 q3 q4 q5
                  go_wp2_with fail
                  go_roundw
                  case rel => exact ⟨m + 1, by omega, by go_num, fun q hq => (Nat.lt_succ_iff_lt_or_eq.1 hq).elim (h4.out q) (fun e => by subst e; exact HD.out), by (repeat' (first | exact Below.refl _ _ | assumption | refine below_new ?_ _ | refine below_draw ?_ | refine below_tail (by assumption) ?_ | refine below_set ?_ (by first | omega | (simp <;> omega)) _))⟩
                  case measure => simp [intOf]; omega
                · have HD : Hid (colB l = true) := anyN_true hlt (anyN_true hlt2 (anyN_true hlt3 (by unfold col3; rw [HTT.out]; exact hd)))
                  go_wp2_with fail
                  refine region_q mixed (by kernel_rfl) ?_
                  repeat (go_big_quiet_step ((go_at_call 89; exact Calls.regrown_of (rturn_is _ HA HB HC HTT.out))))
                  refine wpQuiet_nil ?_
                  intro wq hbq
                  clear q0 q1 q2 q3 q4 q5
                  go_wp2_with fail
                  go_ret
                  exact ⟨ret_int (by rw [HT.out, if_pos HE.out, if_pos HD.out]), by (repeat' (first | exact Below.refl _ _ | assumption | refine below_new ?_ _ | refine below_draw ?_ | refine below_tail (by assumption) ?_ | refine below_set ?_ (by first | omega | (simp <;> omega)) _))⟩
              · have hg3 : decide ((m : Int) < (r : Int)) = false := decide_eq_false (by omega)
                obtain rfl : m = r := by omega
                have HD := Lib.hid (anyN_false h4.out)
                go_wp2_with fail
                go_roundw
                case rel => exact ⟨m + 1, by omega, by go_num, fun q hq => (Nat.lt_succ_iff_lt_or_eq.1 hq).elim (h2.out q) (fun e => by subst e; exact HD.out), hbw3⟩
                case measure => simp [intOf]; omega
          · have hg2 : decide ((r : Int) < (k : Int)) = false := decide_eq_false (by omega)
            obtain rfl : r = k := by omega
            have HD := Lib.hid (anyN_false h2.out)
            go_wp2_with fail
            go_roundw
            case rel => exact ⟨r + 1, by omega, by go_num, fun q hq => (Nat.lt_succ_iff_lt_or_eq.1 hq).elim (h1.out q) (fun e => by subst e; exact HD.out), hbw2⟩
            case measure => simp [intOf]; omega
      · have hg : decide ((k : Int) < (l.length : Int)) = false := decide_eq_false (by omega)
        obtain rfl : k = l.length := by omega
        have HD : Hid (colB l = false) := anyN_false h1.out
        go_wp2_with fail
        go_ret
        exact ⟨ret_int (by rw [HT.out, if_pos HE.out, if_neg (by rw [HD.out]; decide)]), hbw⟩
  · have h1 : (e == 0) = false := by simpa using hz
    have h2 : (e != 0) = true := by simpa using hz
    have HZ := Lib.hid hz
    clear hz
    go_enter Try.func38, Try.ntmps38
    go_wp2_with (go_at_call 28; (with_reducible refine (rvalidate_is _ (HP.out.below (by (repeat' (first | exact Below.refl _ _ | assumption | refine below_new ?_ _ | refine below_draw ?_ | refine below_tail (by assumption) ?_ | refine below_set ?_ (by first | omega | (simp <;> omega)) _)))) HE.out).use ?_); intro w1 hb1 hz1 hc1 hf1; clear hc1 hf1)
    go_ret
    exact ⟨ret_int (by rw [HT.out, if_neg (by rw [HE.out]; exact HZ.out), HE.out]), by (repeat' (first | exact Below.refl _ _ | assumption | refine below_new ?_ _ | refine below_draw ?_ | refine below_tail (by assumption) ?_ | refine below_set ?_ (by first | omega | (simp <;> omega)) _))⟩
theorem triErr_is {v : Value} {l : List (Int × Int)} {e : Int} (w : World) (h : PairsAt w v l) (he : triE l = e) : Gives Try.prog 38 #[v] w (.int .i64 e) := he ▸ triErr_calls v l w h
end Go.Proofs.Ythiemglckmociaa
/- The triangles into which the program splits a plot, in plain. No conditions. -/
namespace Go.Proofs.Ythiemglckmociaa
open Go.RowKit
/-- The corners of a triangle. -/
def tri3 (t : List (Int × Int)) : Pt × Pt × Pt := (cor t 0, cor t 1, cor t 2)
/-- A plot is split, part by part; which corners split it is left open. -/
inductive IsTri : List (Int × Int) → List (List (Int × Int)) → Prop
  | base {l : List (Int × Int)} (h : l.length = 3) : IsTri l [normF l]
  | split {l : List (Int × Int)} {T U : List (List (Int × Int))} (i j : Nat) (hi : i < l.length) (hj : j < l.length) (hs : splitB l i j = true) (t : IsTri (btw l i (farM l.length i j)) T) (u : IsTri (btw l j (farM l.length j i)) U) : IsTri l (T ++ U)
theorem cor_same {l : List (Int × Int)} {a b : Nat} (h : a % l.length = b % l.length) : cor l a = cor l b := by unfold cor; rw [h]
theorem turn_zero {a b c : Int × Int} (e : turn a b c = 0) : turn a c b = 0 ∧ turn b a c = 0 ∧ turn b c a = 0 ∧ turn c a b = 0 ∧ turn c b a = 0 := by
  have h1 : turn a c b = - turn a b c := by unfold turn; grind
  have h2 : turn b a c = - turn a b c := by unfold turn; grind
  have h3 : turn b c a = turn a b c := by unfold turn; grind
  have h4 : turn c a b = turn a b c := by unfold turn; grind
  have h5 : turn c b a = - turn a b c := by unfold turn; grind
  omega
theorem noLine_of {l : List (Int × Int)} (h0 : 0 < l.length) (h : colB l = false) : NoLine (cor l) l.length := by
  have key : ∀ i k m, i < l.length → k < i → m < k → turn (cor l i) (cor l k) (cor l m) ≠ 0 := fun i k m h1 h2 h3 e => by
    have := anyN_none (anyN_none (anyN_none h i h1) k h2) m h3
    unfold col3 at this
    rw [← cor_lt h1, ← cor_lt (show k < l.length by omega), ← cor_lt (show m < l.length by omega), e] at this
    simp at this
  intro i j k h1 h2 h3 e
  have a1 := Nat.mod_lt i h0
  have a2 := Nat.mod_lt j h0
  have a3 := Nat.mod_lt k h0
  have e1 : cor l i = cor l (i % l.length) := cor_same (Nat.mod_mod _ _).symm
  have e2 : cor l j = cor l (j % l.length) := cor_same (Nat.mod_mod _ _).symm
  have e3 : cor l k = cor l (k % l.length) := cor_same (Nat.mod_mod _ _).symm
  rw [e1, e2, e3] at e
  generalize i % l.length = a at *
  generalize j % l.length = b at *
  generalize k % l.length = c at *
  obtain ⟨z1, z2, z3, z4, z5⟩ := turn_zero e
  rcases (show (a < b ∧ b < c) ∨ (a < c ∧ c < b) ∨ (b < a ∧ a < c) ∨ (b < c ∧ c < a) ∨ (c < a ∧ a < b) ∨ (c < b ∧ b < a) by omega) with ⟨x, y⟩ | ⟨x, y⟩ | ⟨x, y⟩ | ⟨x, y⟩ | ⟨x, y⟩ | ⟨x, y⟩
  · exact key c b a a3 y x z5
  · exact key b c a a2 y x z3
  · exact key c a b a3 y x z4
  · exact key a c b a1 y x z1
  · exact key b a c a2 y x z2
  · exact key a b c a1 y x e
/-- The normal form of a triangle: its corners, turning left. -/
theorem norm_three {l : List (Int × Int)} (hv : Valid l) (h : l.length = 3) : 0 < turn (cor (normF l) 0) (cor (normF l) 1) (cor (normF l) 2) ∧
    ((lam (cor l) 3 0 = 1 ∧ ∃ i, tri3 (normF l) = (cor l i, cor l (i + 1), cor l (i + 2))) ∨ (lam (cor l) 3 0 ≠ 1 ∧ ∃ i, tri3 (normF l) = (cor l (i + 2), cor l (i + 1), cor l i))) := by
  obtain ⟨n1, n2, n3⟩ := norm_valid hv
  obtain ⟨g1, g2, g3⟩ := lft_valid hv
  have hs := hv.simple
  rw [h] at hs
  have hns := n1.simple
  rw [n3, h] at hns
  have hf := fstK_le (lftL l) ((lftL l).length - 1)
  have hi : fstK (lftL l) ((lftL l).length - 1) < (lftL l).length := by have := g1.lo; omega
  obtain ⟨s, hsd⟩ : ∃ s, fstK (lftL l) ((lftL l).length - 1) = s := ⟨_, rfl⟩
  rw [hsd] at hi
  have hc : ∀ k, cor (normF l) k = cor (lftL l) (k + s) := fun k => by
    unfold normF
    rw [hsd]
    exact cor_rotl hi k
  refine ⟨?_, ?_⟩
  · have ha : area (cor (normF l)) 3 = areaK (normF l) (normF l).length := by rw [n3, h]; rfl
    have := area3 hns 0
    rw [ha] at this
    have e : turn (cor (normF l) 0) (cor (normF l) (0 + 1)) (cor (normF l) (0 + 2)) = turn (cor (normF l) 0) (cor (normF l) 1) (cor (normF l) 2) := rfl
    rw [e] at this
    omega
  · have ha : area (cor l) 3 = areaK l l.length := by rw [h]; rfl
    have hp := hs.area_pos
    by_cases c : areaK l l.length < 0
    · right
      have el : lftL l = l.reverse := by unfold lftL; rw [if_pos c]
      refine ⟨fun q => by rw [q] at hp; omega, 2 - (s + 2) % 3, ?_⟩
      have e : ∀ k, cor (normF l) k = cor l (2 - (k + s) % 3) := fun k => by rw [hc, el, cor_rev (by omega), h]
      unfold tri3
      rw [e, e, e]
      refine Prod.ext (cor_same ?_) (Prod.ext (cor_same ?_) (cor_same ?_)) <;> rw [h] <;> omega
    · left
      have el : lftL l = l := by unfold lftL; rw [if_neg c]
      have hne := hv.area_ne
      refine ⟨lam_of_area hs (by omega), s, ?_⟩
      unfold tri3
      rw [hc, hc, hc, el, Nat.zero_add, Nat.add_comm 1 s, Nat.add_comm 2 s]
/-- What the triangles of a plot are, of which no three corners are on one line. -/
structure TriOK (l : List (Int × Int)) (T : List (List (Int × Int))) : Prop where
  tris : Tris (cor l) l.length (T.map tri3)
  ins : ∀ x, TrisIn (cor l) l.length (T.map tri3) x
  sum : sumT (T.map tri3) = (2 * lam (cor l) l.length 0 - 1) * area (cor l) l.length
  each : ∀ t ∈ T, t.length = 3 ∧ Valid t
theorem IsTri.ok {l : List (Int × Int)} {T : List (List (Int × Int))} (t : IsTri l T) : Valid l → NoLine (cor l) l.length → TriOK l T := by
  induction t with
  | @base l h =>
    intro hv _
    obtain ⟨h1, h2⟩ := norm_three hv h
    obtain ⟨n1, n2, n3⟩ := norm_valid hv
    have hs := hv.simple
    rw [h] at hs
    refine ⟨?_, fun x => ?_, ?_, fun t ht => ?_⟩
    · rw [h]; exact Tris.base hs h1 h2
    · rw [h]; exact TrisIn.base hs (by rcases h2 with ⟨_, k⟩ | ⟨_, k⟩; exact .inl k; exact .inr k)
    · rw [h]; exact sumT_base hs h2
    · rw [List.mem_singleton.1 ht]; exact ⟨n3.trans h, n1⟩
  | @split l T U i j hi hj hsp _ _ iht ihu =>
    intro hv nc
    obtain ⟨m, m2, m3, hm, d, hc⟩ := split_parts hv hi hj hsp
    have e1 : farM l.length i j = m := by unfold farM; split <;> omega
    have e2 : farM l.length j i = l.length - m := by unfold farM; split <;> omega
    rw [e1] at iht
    rw [e2] at ihu
    have hs := hv.simple.shift i
    have e : (fun k => (fun k => cor l (k + i)) (k + m)) = fun k => cor l (k + j) := funext fun k => by
      show cor l (k + m + i) = cor l (k + j)
      rcases hm with x | x
      · rw [show k + m + i = k + j by omega]
      · rw [show k + m + i = k + j + l.length by omega, cor_per]
    have p1 := d.part hs
    have p2 := (d.swap hs).part (hs.shift m)
    have nci := nc.shift (show 0 < l.length by omega) i
    have ncm := nci.shift (show 0 < l.length by omega) m
    have q1 := nci.part (m := m) (by omega)
    have q2 := ncm.part (m := l.length - m) (by omega)
    have v1 := btw_valid hv m3 p1
    have v2 : Valid (btw l j (l.length - m)) := btw_valid hv (by omega) (by rw [e] at p2; exact p2)
    have t1 := iht v1 (by rw [cor_btw, btw_length]; exact q1)
    have t2 := ihu v2 (by rw [cor_btw, btw_length, ← e]; exact q2)
    obtain ⟨a1, a2, a3, a4⟩ := t1
    obtain ⟨b1, b2, b3, b4⟩ := t2
    rw [cor_btw, btw_length] at a1 a3
    rw [cor_btw, btw_length, ← e] at b1 b3
    have a2 : ∀ x, TrisIn (part (fun k => cor l (k + i)) m) (m + 1) (T.map tri3) x := fun x => by have := a2 x; rwa [cor_btw, btw_length] at this
    have b2 : ∀ x, TrisIn (part (fun k => (fun k => cor l (k + i)) (k + m)) (l.length - m)) (l.length - m + 1) (U.map tri3) x := fun x => by have := b2 x; rwa [cor_btw, btw_length, ← e] at this
    refine ⟨?_, fun x => ?_, ?_, fun t ht => ?_⟩
    · rw [List.map_append]; exact (Tris.join hs nci d hc a1 b1).unshift hv.simple
    · rw [List.map_append]; exact (TrisIn.join hs d hc (a2 x) (b2 x)).unshift hv.simple
    · rw [List.map_append, sumT_join hs d hc a3 b3, lam_shift hv.simple i, area_shifted hv.simple i]
    · rcases List.mem_append.1 ht with k | k
      · exact a4 t k
      · exact b4 t k
/-- The normal form, from some corner on. -/
theorem norm_cor {l : List (Int × Int)} (hv : Valid l) : ∃ s, cor (normF l) = (fun k => cor l (k + s)) ∨ cor (normF l) = fun k => rev (cor l) l.length (k + s) := by
  obtain ⟨g1, g2, g3⟩ := lft_valid hv
  have h3 := hv.lo
  have hf := fstK_le (lftL l) ((lftL l).length - 1)
  have hi : fstK (lftL l) ((lftL l).length - 1) < (lftL l).length := by have := g1.lo; omega
  obtain ⟨s, hsd⟩ : ∃ s, fstK (lftL l) ((lftL l).length - 1) = s := ⟨_, rfl⟩
  rw [hsd] at hi
  have hc : ∀ k, cor (normF l) k = cor (lftL l) (k + s) := fun k => by
    unfold normF
    rw [hsd]
    exact cor_rotl hi k
  by_cases c : areaK l l.length < 0
  · have el : lftL l = l.reverse := by unfold lftL; rw [if_pos c]
    refine ⟨s + 1, .inr (funext fun k => ?_)⟩
    rw [hc, el, cor_rev (by omega)]
    unfold rev
    refine cor_same ?_
    -- both are - (k + s + 1)
    have hb := rev_idx l.length (k + (s + 1)) (by omega)
    have hlt := Nat.mod_lt (k + s) (show 0 < l.length by omega)
    refine mod_cancel (m := k + (s + 1)) (by omega) ?_
    rw [rev_mod _ _ (by omega), show l.length - 1 - (k + s) % l.length + (k + (s + 1)) = (k + s - (k + s) % l.length) + l.length by have := Nat.mod_le (k + s) l.length; omega, Nat.add_mod_right]
    have hd := Nat.div_add_mod (k + s) l.length
    rw [show k + s - (k + s) % l.length = l.length * ((k + s) / l.length) by omega, Nat.mul_mod_right]
  · have el : lftL l = l := by unfold lftL; rw [if_neg c]
    exact ⟨s, .inl (funext fun k => by rw [hc, el])⟩
theorem TriOK.norm {l : List (Int × Int)} {T : List (List (Int × Int))} (t : TriOK l T) (hv : Valid l) (nc : NoLine (cor l) l.length) : Tris (cor (normF l)) l.length (T.map tri3) := by
  have h3 := hv.lo
  obtain ⟨s, e | e⟩ := norm_cor hv
  · rw [e]; exact t.tris.shift hv.simple s
  · rw [e]; exact (t.tris.rev hv.simple nc).shift hv.simple.turned s
/-- A line inside splits the plot. -/
theorem inner_split {l : List (Int × Int)} (hv : Valid l) {i d : Nat} (h : Inner (cor l) l.length (i % l.length) d) (hd1 : 2 ≤ d) (hd2 : d + 2 ≤ l.length) : splitB l (i % l.length) ((i + d) % l.length) = true := by
  have h3 := hv.lo
  have a1 := Nat.mod_lt i (show 0 < l.length by omega)
  have a2 := Nat.mod_lt (i + d) (show 0 < l.length by omega)
  obtain ⟨h1, h2⟩ := h
  have hm : i % l.length + d = (i + d) % l.length ∨ i % l.length + d = (i + d) % l.length + l.length := by
    have e : (i + d) % l.length = (i % l.length + d) % l.length := (Nat.mod_add_mod _ _ _).symm
    rw [e]
    rcases Nat.lt_or_ge (i % l.length + d) l.length with c | c
    · exact .inl (Nat.mod_eq_of_lt c).symm
    · right
      rw [Nat.mod_eq_sub_mod c, Nat.mod_eq_of_lt (show i % l.length + d - l.length < l.length by omega)]
      omega
  refine split_of_diag hv a1 a2 hd1 hd2 hm h1 ?_
  rw [Nat.zero_add, Nat.add_comm d]
  exact h2
end Go.Proofs.Ythiemglckmociaa
/- What the document counts of triangles, in plain. No conditions. -/
namespace Go.Proofs.Ythiemglckmociaa
open Go.RowKit
/-- How many of the first k sides of a triangle go from x to y. -/
def eK (t : List (Int × Int)) (x y : Int × Int) : Nat → Nat
  | 0 => 0
  | k + 1 => eK t x y k + if cor t k = x ∧ cor t (k + 1) = y then 1 else 0
theorem eK_all {t : List (Int × Int)} (h : t.length = 3) (x y : Int × Int) : eK t x y 3 = e3 (tri3 t) x y := by
  have e : cor t (2 + 1) = cor t 0 := cor_same (by rw [h])
  unfold e3 tri3
  simp only [eK, e, Nat.zero_add]
/-- How often a line is gone along: by the first i triangles, and the first k sides of the next one. -/
def edK (T : List (List (Int × Int))) (q : List (Int × Int)) (i k a b : Nat) : Nat := ed ((T.take i).map tri3) (gi q (0, 0) a) (gi q (0, 0) b) + eK (T.getD i []) (gi q (0, 0) a) (gi q (0, 0) b) k
theorem edK_next {T : List (List (Int × Int))} {q : List (Int × Int)} {i a b : Nat} (hi : i < T.length) (h : (T.getD i []).length = 3) : edK T q i 3 a b = edK T q (i + 1) 0 a b := by
  unfold edK
  rw [eK_all h, List.take_add_one, List.getElem?_eq_getElem hi]
  have e : T.getD i [] = T[i] := by simp [hi]
  rw [e]
  show _ = ed (List.map tri3 (T.take i ++ [T[i]])) _ _ + 0
  rw [List.map_append, ed_app]
  show _ = _ + (e3 (tri3 T[i]) _ _ + 0) + 0
  omega
/-- A table of n times n numbers. -/
def tabF (n : Nat) (f : Nat → Nat → Nat) : List Int := (List.range (n * n)).map fun m => ((f (m / n) (m % n) : Nat) : Int)
theorem tab_length (n : Nat) (f : Nat → Nat → Nat) : (tabF n f).length = n * n := by simp [tabF]
theorem tab_at {n a b : Nat} (ha : a < n) (hb : b < n) : a * n + b < n * n ∧ (a * n + b) / n = a ∧ (a * n + b) % n = b := by
  have h1 : (a + 1) * n ≤ n * n := Nat.mul_le_mul_right _ ha
  have h2 : (a + 1) * n = a * n + n := Nat.succ_mul _ _
  refine ⟨by omega, ?_, ?_⟩
  · rw [Nat.mul_comm, Nat.mul_add_div (by omega), Nat.div_eq_of_lt hb]; rfl
  · rw [Nat.mul_comm, Nat.mul_add_mod, Nat.mod_eq_of_lt hb]
theorem tab_get {n a b : Nat} (f : Nat → Nat → Nat) (ha : a < n) (hb : b < n) : gi (tabF n f) 0 (a * n + b) = (f a b : Nat) := by
  obtain ⟨h1, h2, h3⟩ := tab_at ha hb
  rw [gi_lt (by rw [tab_length]; exact h1)]
  simp [tabF, h2, h3]
theorem tab_set {n a b : Nat} (f : Nat → Nat → Nat) (ha : a < n) (hb : b < n) : (tabF n f).set (a * n + b) ((f a b : Nat) + 1 : Int) = tabF n fun x y => f x y + if x = a ∧ y = b then 1 else 0 := by
  obtain ⟨h1, h2, h3⟩ := tab_at ha hb
  refine List.ext_getElem (by simp [tabF]) fun m k1 k2 => ?_
  rw [List.getElem_set]
  have hm : m < n * n := by rw [tab_length] at k2; exact k2
  have hn : 0 < n := by omega
  split
  · rename_i e
    subst e
    simp [tabF, h2, h3]
  · rename_i e
    have : ¬ (m / n = a ∧ m % n = b) := fun ⟨p1, p2⟩ => by
      have := Nat.div_add_mod m n
      rw [p1, p2, Nat.mul_comm] at this
      exact e this
    simp [tabF, this]
theorem tab_ext {n : Nat} {f g : Nat → Nat → Nat} (h : ∀ a b, a < n → b < n → f a b = g a b) : tabF n f = tabF n g := by
  refine List.map_congr_left fun m hm => ?_
  have hm : m < n * n := List.mem_range.1 hm
  have hn : 0 < n := by
    rcases Nat.eq_zero_or_pos n with e | e
    · subst e; simp at hm
    · exact e
  rw [h _ _ (by rw [Nat.div_lt_iff_lt_mul hn]; exact hm) (Nat.mod_lt _ hn)]
theorem tab_zero {T : List (List (Int × Int))} {q : List (Int × Int)} (n : Nat) : tabF n (edK T q 0 0) = List.replicate (n * n) 0 := by
  refine List.ext_getElem (by simp [tabF]) fun m k1 k2 => ?_
  simp [tabF, edK, eK, ed]
/-- One more side. -/
theorem edK_side {T : List (List (Int × Int))} {q : List (Int × Int)} {i k x y n : Nat} (hq : ∀ a b, a < n → b < n → gi q (0, 0) a = gi q (0, 0) b → a = b) (hx : x < n) (hy : y < n) (h1 : gi q (0, 0) x = cor (T.getD i []) k) (h2 : gi q (0, 0) y = cor (T.getD i []) (k + 1)) :
    (tabF n (edK T q i k)).set (x * n + y) ((edK T q i k x y : Nat) + 1 : Int) = tabF n (edK T q i (k + 1)) := by
  rw [tab_set _ hx hy]
  refine tab_ext fun a b ha hb => ?_
  unfold edK
  simp only [eK, ← h1, ← h2, Nat.add_assoc]
  congr 2
  by_cases c : a = x ∧ b = y
  · rw [if_pos c, if_pos ⟨by rw [c.1], by rw [c.2]⟩]
  · rw [if_neg c, if_neg fun ⟨p1, p2⟩ => c ⟨hq _ _ ha hx p1.symm, hq _ _ hb hy p2.symm⟩]
theorem turn_diff {a b c : Int × Int} (h : 0 < turn a b c) : a ≠ b ∧ b ≠ c ∧ a ≠ c := by
  refine ⟨fun e => ?_, fun e => ?_, fun e => ?_⟩ <;> subst e <;> (unfold turn at h; grind)
theorem ed_self {x : Int × Int} : ∀ {T : List (Pt × Pt × Pt)}, (∀ t ∈ T, 0 < turn t.1 t.2.1 t.2.2) → ed T x x = 0
  | [], _ => rfl
  | t :: T, h => by
    have h1 := turn_diff (h t (by simp))
    have h2 := ed_self (x := x) fun u hu => h u (List.mem_cons_of_mem t hu)
    unfold ed e3
    rw [h2, if_neg fun ⟨p, q⟩ => h1.1 (p.trans q.symm), if_neg fun ⟨p, q⟩ => h1.2.1 (p.trans q.symm), if_neg fun ⟨p, q⟩ => h1.2.2 (q.trans p.symm)]
/-- The corners of the normal form. -/
theorem norm_facts {l : List (Int × Int)} (hv : Valid l) : lam (cor (normF l)) l.length 0 = 1 ∧ (∀ a, a < l.length → gi (normF l) (0, 0) a = cor (normF l) a) ∧ ∀ a b, a < l.length → b < l.length → gi (normF l) (0, 0) a = gi (normF l) (0, 0) b → a = b := by
  obtain ⟨n1, n2, n3⟩ := norm_valid hv
  have hs := n1.simple
  rw [n3] at hs
  have e : area (cor (normF l)) l.length = areaK (normF l) (normF l).length := by rw [n3]; rfl
  refine ⟨lam_of_area hs (by rw [e]; exact n2), fun a ha => (cor_lt (by omega)).symm, fun a b ha hb e => ?_⟩
  exact Classical.byContradiction fun c => n1.ne (by omega) (by omega) c e
theorem are_facts {l : List (Int × Int)} {T : List (List (Int × Int))} (hv : Valid l) (nc : NoLine (cor l) l.length) (t : TriOK l T) {a b : Nat} (ha : a < l.length) (hb : b < l.length) :
    (b = (a + 1) % l.length → edK T (normF l) T.length 0 a b = 1 ∧ edK T (normF l) T.length 0 b a = 0) ∧
    (b ≠ (a + 1) % l.length → a ≠ (b + 1) % l.length → edK T (normF l) T.length 0 a b = edK T (normF l) T.length 0 b a ∧ edK T (normF l) T.length 0 a b ≤ 1 ∧ (edK T (normF l) T.length 0 a b = 1 → splitB (normF l) a b = true)) := by
  obtain ⟨n1, n2, n3⟩ := norm_valid hv
  obtain ⟨f1, f2, f3⟩ := norm_facts hv
  have tn := t.norm hv nc
  have h3 := hv.lo
  have e : ∀ x y, x < l.length → y < l.length → edK T (normF l) T.length 0 x y = ed (T.map tri3) (cor (normF l) x) (cor (normF l) y) := fun x y hx hy => by
    unfold edK
    rw [List.take_length, f2 x hx, f2 y hy]; rfl
  rw [e a b ha hb, e b a hb ha]
  constructor
  · intro h
    have := tn.side a
    have ec : cor (normF l) b = cor (normF l) (a + 1) := cor_same (by rw [n3, h, Nat.mod_mod])
    rw [ec, this.1, this.2, if_pos f1, if_pos f1]
    exact ⟨rfl, rfl⟩
  · intro h1 h2
    by_cases hab : a = b
    · subst hab
      rw [ed_self tn.lft]
      exact ⟨rfl, Nat.zero_le _, fun k => by cases k⟩
    · have hm1 : (a + 1) % l.length = if a + 1 = l.length then 0 else a + 1 := by
        split
        · rename_i c; rw [c, Nat.mod_self]
        · exact Nat.mod_eq_of_lt (by omega)
      have hm2 : (b + 1) % l.length = if b + 1 = l.length then 0 else b + 1 := by
        split
        · rename_i c; rw [c, Nat.mod_self]
        · exact Nat.mod_eq_of_lt (by omega)
      rw [hm1] at h1
      rw [hm2] at h2
      obtain ⟨d, hd, d2, d3⟩ : ∃ d, (a + d = b ∨ a + d = b + l.length) ∧ 2 ≤ d ∧ d + 2 ≤ l.length := by
        rcases Nat.lt_or_ge a b with c | c
        · refine ⟨b - a, .inl (by omega), ?_, ?_⟩ <;> (split at h1 <;> split at h2 <;> omega)
        · refine ⟨b + l.length - a, .inr (by omega), ?_, ?_⟩ <;> (split at h1 <;> split at h2 <;> omega)
      have em : (a + d) % l.length = b := by
        rcases hd with c | c
        · rw [c, Nat.mod_eq_of_lt hb]
        · rw [c, Nat.add_mod_right, Nat.mod_eq_of_lt hb]
      have ec : cor (normF l) b = cor (normF l) (a + d) := cor_same (by rw [n3, em, Nat.mod_eq_of_lt hb])
      obtain ⟨k1, k2, k3⟩ := tn.inner a d d2 d3
      rw [ec]
      refine ⟨k1, k2, fun k => ?_⟩
      have hi := k3 k
      have ea : a % (normF l).length = a := by rw [n3]; exact Nat.mod_eq_of_lt ha
      have := inner_split n1 (i := a) (d := d) (by rw [ea, n3]; exact hi) d2 (by omega)
      rw [ea, n3, em] at this
      exact this
/-- Each corner of a triangle is one of the normal form. -/
theorem are_corner {l : List (Int × Int)} {T : List (List (Int × Int))} (hv : Valid l) (nc : NoLine (cor l) l.length) (t : TriOK l T) {i : Nat} (hi : i < T.length) (k : Nat) : ∃ x, x < l.length ∧ gi (normF l) (0, 0) x = cor (T.getD i []) k := by
  have tn := t.norm hv nc
  obtain ⟨f1, f2, f3⟩ := norm_facts hv
  obtain ⟨n1, n2, n3⟩ := norm_valid hv
  have h3 := hv.lo
  have e : T.getD i [] = T[i] := by simp [hi]
  have hl := (t.each _ (List.getElem_mem hi)).1
  rw [e]
  have hk : cor T[i] k = cor T[i] (k % 3) := cor_same (by rw [hl, Nat.mod_mod])
  have hh : has (tri3 T[i]) (cor T[i] (k % 3)) := by
    unfold has tri3
    have := Nat.mod_lt k (show 0 < 3 by decide)
    rcases (show k % 3 = 0 ∨ k % 3 = 1 ∨ k % 3 = 2 by omega) with c | c | c <;> rw [c]
    · exact .inl rfl
    · exact .inr (.inl rfl)
    · exact .inr (.inr rfl)
  obtain ⟨j, hj⟩ := tn.mem _ (List.mem_map_of_mem (List.getElem_mem hi)) _ hh
  refine ⟨j % l.length, Nat.mod_lt _ (by omega), ?_⟩
  rw [f2 _ (Nat.mod_lt _ (by omega)), hk, hj]
  exact cor_same (by rw [n3, Nat.mod_mod])
/-- What each triangle has: its area. -/
theorem are_each {l : List (Int × Int)} {T : List (List (Int × Int))} (hv : Valid l) (nc : NoLine (cor l) l.length) (t : TriOK l T) {u : List (Int × Int)} (hu : u ∈ T) : areaK u u.length = turn (cor u 0) (cor u 1) (cor u 2) ∧ 0 < areaK u u.length ∧ twiceF u = areaK u u.length := by
  obtain ⟨h1, h2⟩ := t.each _ hu
  have hs := h2.simple
  rw [h1] at hs
  have e := area3 hs 0
  have e1 : area (cor u) 3 = areaK u u.length := by rw [h1]; rfl
  rw [e1] at e
  have hp := (t.norm hv nc).lft _ (List.mem_map_of_mem hu)
  have e2 : areaK u u.length = turn (cor u 0) (cor u 1) (cor u 2) := e
  have hp : 0 < turn (cor u 0) (cor u 1) (cor u 2) := hp
  refine ⟨e2, by omega, ?_⟩
  unfold twiceF
  rw [if_pos (valid_iff.2 h2)]
  omega
/-- The first k areas. -/
def sumK (T : List (List (Int × Int))) (k : Nat) : Int := ((T.take k).map twiceF).sum
theorem sumK_succ {T : List (List (Int × Int))} {k : Nat} (h : k < T.length) : sumK T (k + 1) = sumK T k + twiceF (T.getD k []) := by
  unfold sumK
  have e : T.getD k [] = T[k] := by simp [h]
  rw [List.take_add_one, List.getElem?_eq_getElem h, e]
  show (List.map twiceF (T.take k ++ [T[k]])).sum = _
  rw [List.map_append, List.sum_append]
  show _ + (twiceF T[k] + 0) = _
  omega
theorem are_sum {l : List (Int × Int)} {T : List (List (Int × Int))} (hv : Valid l) (nc : NoLine (cor l) l.length) (t : TriOK l T) : sumK T T.length = twiceF l := by
  have h : ∀ U : List (List (Int × Int)), (∀ u ∈ U, u ∈ T) → (U.map twiceF).sum = sumT (U.map tri3) := by
    intro U
    induction U with
    | nil => intro _; rfl
    | cons u U ih =>
      intro k
      obtain ⟨h1, h2, h3⟩ := are_each hv nc t (k u (by simp))
      rw [List.map_cons, List.map_cons, List.sum_cons, ih fun v hv => k v (List.mem_cons_of_mem _ hv), h3, h1]
      rfl
  unfold sumK
  rw [List.take_length, h T fun _ h => h, t.sum]
  have hs := hv.simple
  have hp := hs.area_pos
  have e : area (cor l) l.length = areaK l l.length := rfl
  rw [e] at hp
  unfold twiceF
  rw [if_pos (valid_iff.2 hv), e]
  rcases hs.lam01 with c | c <;> rw [c] at hp ⊢ <;> omega
end Go.Proofs.Ythiemglckmociaa
