/- What SamePoints, slices.Equal, Normal and Same give at any lists. Conditions: the lists lie in memory as said. -/
import Derived.Test.YthiemglckmociaaPtRNormal2
namespace Go.Proofs.Ythiemglckmociaa
open Go.RowKit
attribute [local go_sem high] neq_pt eqg_pt
set_option maxHeartbeats 1000000 in
theorem samePtsG_calls (v1 v2 : Value) (a b : List (Int × Int)) (w : World) (ha : PairsAt w v1 a) (hb : PairsAt w v2 b) :
    Gives Try.prog 33 #[v1, v2] w (.bool (decide (a = b))) := by
  have HA := Lib.hid ha
  have HB := Lib.hid hb
  obtain ⟨aa, ac, rfl, hal, ham, _⟩ := ha
  obtain ⟨ba, bc, rfl, hbl, hbm, _⟩ := hb
  unfold Gives
  by_cases hlen : a.length = b.length
  · have h1 : ((a.length : Int) != (b.length : Int)) = false := by simp [hlen]
    have HL := Lib.hid hlen
    clear hlen
    go_enter Try.func33, Try.ntmps33
    go_wp2_with fail
    go_loopw [5] (fun i wr => ∃ k : Nat, k ≤ a.length ∧ i = .int .i64 k ∧ Hid (∀ j, j < k → gi a (0, 0) j = gi b (0, 0) j) ∧ Below w.heap.size w wr) (fun i _ => a.length - (intOf i).toNat)
    case atStart => exact ⟨0, Nat.zero_le _, rfl, fun j hj => absurd hj (by omega), Below.refl _ _⟩
    case round =>
      obtain ⟨k, hk, rfl, hall, hbw⟩ := hrel
      by_cases hlt : k < a.length
      · have hg : decide ((k : Int) < (a.length : Int)) = true := by simpa using hlt
        have hltb : k < b.length := by have := HL.out; omega
        obtain ⟨ab, ao, rfl, hA, g0, g1⟩ := HA.out.cellB hbw hlt
        obtain ⟨bb, bo, rfl, hB, c0, c1⟩ := HB.out.cellB hbw hltb
        have q0 := fun d os => cell_regrown g0 d os
        have q1 := fun d os => cell_regrown g1 d os
        have q2 := fun d os => cell_regrown c0 d os
        have q3 := fun d os => cell_regrown c1 d os
        by_cases he : gi a (0, 0) k = gi b (0, 0) k
        · have hs : (((gi a (0, 0) k).1, (gi a (0, 0) k).2) == ((gi b (0, 0) k).1, (gi b (0, 0) k).2)) = true := by rw [he]; simp
          have HE := Lib.hid he
          clear he
          go_wp2_with fail
          refine region_q mixed (by kernel_rfl) ?_
          repeat (go_big_quiet_step (fail))
          refine wpQuiet_nil ?_
          intro wq hbq
          clear q0 q1 q2 q3
          go_wp2_with fail
          go_roundw
          case rel => exact ⟨k + 1, by omega, by go_num, fun j hj => by
            by_cases c : j = k
            · rw [c]; exact HE.out
            · exact hall.out j (by omega), by (repeat' (first | exact Below.refl _ _ | assumption | refine below_new ?_ _ | refine below_draw ?_ | refine below_tail (by assumption) ?_ | refine below_set ?_ (by first | omega | (simp <;> omega)) _))⟩
          case measure => simp [intOf]; omega
        · have hs : (((gi a (0, 0) k).1, (gi a (0, 0) k).2) == ((gi b (0, 0) k).1, (gi b (0, 0) k).2)) = false := by
            have : ¬ ((gi a (0, 0) k).1, (gi a (0, 0) k).2) = ((gi b (0, 0) k).1, (gi b (0, 0) k).2) := fun e => he (by simpa [Prod.ext_iff] using e)
            simpa using this
          have HE := Lib.hid he
          clear he
          go_wp2_with fail
          refine region_q mixed (by kernel_rfl) ?_
          repeat (go_big_quiet_step (fail))
          refine wpQuiet_nil ?_
          intro wq hbq
          go_wp2_with fail
          go_ret
          exact ⟨ret_bool (decide_eq_false fun e => HE.out (by rw [e])).symm, by (repeat' (first | exact Below.refl _ _ | assumption | refine below_new ?_ _ | refine below_draw ?_ | refine below_tail (by assumption) ?_ | refine below_set ?_ (by first | omega | (simp <;> omega)) _))⟩
      · have hg : decide ((k : Int) < (a.length : Int)) = false := by simpa using hlt
        have hr : decide (a = b) = true := decide_eq_true (List.ext_getElem HL.out fun i h1 h2 => by
          have := hall.out i (by omega)
          rwa [gi_lt h1, gi_lt h2] at this)
        go_wp2_with fail
        go_ret
        exact ⟨ret_bool hr.symm, hbw⟩
  · have h1 : ((a.length : Int) != (b.length : Int)) = true := by simp; omega
    have HL := Lib.hid hlen
    clear hlen
    go_enter Try.func33, Try.ntmps33
    go_wp2_with fail
    go_ret
    exact ⟨ret_bool (decide_eq_false fun e => HL.out (by rw [e])).symm, by (repeat' (first | exact Below.refl _ _ | assumption | refine below_new ?_ _ | refine below_draw ?_ | refine below_tail (by assumption) ?_ | refine below_set ?_ (by first | omega | (simp <;> omega)) _))⟩
set_option maxHeartbeats 1000000 in
theorem equalP_calls (v1 v2 : Value) (a b : List (Int × Int)) (w : World) (ha : PairsAt w v1 a) (hb : PairsAt w v2 b) :
    Gives Try.prog 95 #[v1, v2] w (.bool (decide (a = b))) := by
  have HA := Lib.hid ha
  have HB := Lib.hid hb
  obtain ⟨aa, ac, rfl, hal, ham, _⟩ := ha
  obtain ⟨ba, bc, rfl, hbl, hbm, _⟩ := hb
  unfold Gives
  by_cases hlen : a.length = b.length
  · have h1 : ((a.length : Int) != (b.length : Int)) = false := by simp [hlen]
    have HL := Lib.hid hlen
    clear hlen
    go_enter Try.func95, Try.ntmps95
    go_wp2_with fail
    go_loopw [13] (fun i wr => ∃ k : Nat, k ≤ a.length ∧ i = .int .i64 k ∧ Hid (∀ j, j < k → gi a (0, 0) j = gi b (0, 0) j) ∧ Below w.heap.size w wr) (fun i _ => a.length - (intOf i).toNat)
    case atStart => exact ⟨0, Nat.zero_le _, rfl, fun j hj => absurd hj (by omega), Below.refl _ _⟩
    case round =>
      obtain ⟨k, hk, rfl, hall, hbw⟩ := hrel
      by_cases hlt : k < a.length
      · have hg : decide ((k : Int) < (a.length : Int)) = true := by simpa using hlt
        have hltb : k < b.length := by have := HL.out; omega
        obtain ⟨ab, ao, rfl, hA, g0, g1⟩ := HA.out.cellB hbw hlt
        obtain ⟨bb, bo, rfl, hB, c0, c1⟩ := HB.out.cellB hbw hltb
        have q0 := fun d os => cell_regrown g0 d os
        have q1 := fun d os => cell_regrown g1 d os
        have q2 := fun d os => cell_regrown c0 d os
        have q3 := fun d os => cell_regrown c1 d os
        by_cases he : gi a (0, 0) k = gi b (0, 0) k
        · have hs : (((gi a (0, 0) k).1, (gi a (0, 0) k).2) == ((gi b (0, 0) k).1, (gi b (0, 0) k).2)) = true := by rw [he]; simp
          have HE := Lib.hid he
          clear he
          go_wp2_with fail
          refine region_q mixed (by kernel_rfl) ?_
          repeat (go_big_quiet_step (fail))
          refine wpQuiet_nil ?_
          intro wq hbq
          clear q0 q1 q2 q3
          go_wp2_with fail
          go_roundw
          case rel => exact ⟨k + 1, by omega, by go_num, fun j hj => by
            by_cases c : j = k
            · rw [c]; exact HE.out
            · exact hall.out j (by omega), by (repeat' (first | exact Below.refl _ _ | assumption | refine below_new ?_ _ | refine below_draw ?_ | refine below_tail (by assumption) ?_ | refine below_set ?_ (by first | omega | (simp <;> omega)) _))⟩
          case measure => simp [intOf]; omega
        · have hs : (((gi a (0, 0) k).1, (gi a (0, 0) k).2) == ((gi b (0, 0) k).1, (gi b (0, 0) k).2)) = false := by
            have : ¬ ((gi a (0, 0) k).1, (gi a (0, 0) k).2) = ((gi b (0, 0) k).1, (gi b (0, 0) k).2) := fun e => he (by simpa [Prod.ext_iff] using e)
            simpa using this
          have HE := Lib.hid he
          clear he
          go_wp2_with fail
          refine region_q mixed (by kernel_rfl) ?_
          repeat (go_big_quiet_step (fail))
          refine wpQuiet_nil ?_
          intro wq hbq
          go_wp2_with fail
          go_ret
          exact ⟨ret_bool (decide_eq_false fun e => HE.out (by rw [e])).symm, by (repeat' (first | exact Below.refl _ _ | assumption | refine below_new ?_ _ | refine below_draw ?_ | refine below_tail (by assumption) ?_ | refine below_set ?_ (by first | omega | (simp <;> omega)) _))⟩
      · have hg : decide ((k : Int) < (a.length : Int)) = false := by simpa using hlt
        have hr : decide (a = b) = true := decide_eq_true (List.ext_getElem HL.out fun i h1 h2 => by
          have := hall.out i (by omega)
          rwa [gi_lt h1, gi_lt h2] at this)
        go_wp2_with fail
        go_ret
        exact ⟨ret_bool hr.symm, hbw⟩
  · have h1 : ((a.length : Int) != (b.length : Int)) = true := by simp; omega
    have HL := Lib.hid hlen
    clear hlen
    go_enter Try.func95, Try.ntmps95
    go_wp2_with fail
    go_ret
    exact ⟨ret_bool (decide_eq_false fun e => HL.out (by rw [e])).symm, by (repeat' (first | exact Below.refl _ _ | assumption | refine below_new ?_ _ | refine below_draw ?_ | refine below_tail (by assumption) ?_ | refine below_set ?_ (by first | omega | (simp <;> omega)) _))⟩
theorem samePtsG_is {v1 v2 : Value} {a b : List (Int × Int)} {t : Bool} (w : World) (ha : PairsAt w v1 a) (hb : PairsAt w v2 b) (h : decide (a = b) = t) : Gives Try.prog 33 #[v1, v2] w (.bool t) := h ▸ samePtsG_calls v1 v2 a b w ha hb
theorem equalP_is {v1 v2 : Value} {a b : List (Int × Int)} {t : Bool} (w : World) (ha : PairsAt w v1 a) (hb : PairsAt w v2 b) (h : decide (a = b) = t) : Gives Try.prog 95 #[v1, v2] w (.bool t) := h ▸ equalP_calls v1 v2 a b w ha hb
def nrmL (l : List (Int × Int)) : List (Int × Int) := if validF l = 0 then normF l else []
def sameB (p q : List (Int × Int)) : Bool := if validF p = 0 ∧ validF q = 0 then decide (normF p = normF q) else false
def sameE (p q : List (Int × Int)) : Int := if validF p = 0 then validF q else validF p
set_option maxHeartbeats 1000000 in
theorem Normal_calls (v : Value) (l : List (Int × Int)) (w : World) (h : PairsAt w v l) : GivesPts Try.prog 42 #[v] w (nrmL l) (validF l) := by
  have HP := Lib.hid h
  obtain ⟨sa, cap, rfl, hlc, hcm, _⟩ := h
  have HN : Hid (nrmL l = if validF l = 0 then normF l else []) := rfl
  obtain ⟨L, hL⟩ : ∃ L, nrmL l = L := ⟨_, rfl⟩
  rw [hL] at HN ⊢
  clear hL
  obtain ⟨e, he⟩ : ∃ e, validF l = e := ⟨_, rfl⟩
  have HE := Lib.hid he
  rw [he]
  clear he
  unfold GivesPts
  by_cases hz : e = 0
  · subst hz
    go_enter Try.func42, Try.ntmps42
    go_wp2_with (first | (go_at_call 27; (with_reducible refine (validate_is _ (HP.out.below (by (repeat' (first | exact Below.refl _ _ | assumption | refine below_new ?_ _ | refine below_draw ?_ | refine below_tail (by assumption) ?_ | refine below_set ?_ (by first | omega | (simp <;> omega)) _)))) HE.out).use ?_); intro w1 hb1 hz1 hc1 hf1; clear hc1 hf1) | (go_at_call 93; refine (normal_calls _ l _ (HP.out.below (by (repeat' (first | exact Below.refl _ _ | assumption | refine below_new ?_ _ | refine below_draw ?_ | refine below_tail (by assumption) ?_ | refine below_set ?_ (by first | omega | (simp <;> omega)) _)))) (valid_iff.1 HE.out)).mono ?_; rintro e w2 ⟨v2, rfl, hown2, hb2⟩))
    go_ret2
    exact ⟨_, rfl, by rw [HN.out, if_pos HE.out]; exact own_base hown2 (by omega), by (repeat' (first | exact Below.refl _ _ | assumption | refine below_new ?_ _ | refine below_draw ?_ | refine below_tail (by assumption) ?_ | refine below_set ?_ (by first | omega | (simp <;> omega)) _))⟩
  · have h1 : (e == 0) = false := by simpa using hz
    have h2 : (e != 0) = true := by simpa using hz
    have HZ := Lib.hid hz
    clear hz
    go_enter Try.func42, Try.ntmps42
    go_wp2_with (go_at_call 27; (with_reducible refine (validate_is _ (HP.out.below (by (repeat' (first | exact Below.refl _ _ | assumption | refine below_new ?_ _ | refine below_draw ?_ | refine below_tail (by assumption) ?_ | refine below_set ?_ (by first | omega | (simp <;> omega)) _)))) HE.out).use ?_); intro w1 hb1 hz1 hc1 hf1; clear hc1 hf1)
    go_ret2
    exact ⟨_, rfl, by rw [HN.out, if_neg (by rw [HE.out]; exact HZ.out)]; exact World.ownsRow_nil _ _ _ _, by (repeat' (first | exact Below.refl _ _ | assumption | refine below_new ?_ _ | refine below_draw ?_ | refine below_tail (by assumption) ?_ | refine below_set ?_ (by first | omega | (simp <;> omega)) _))⟩
set_option maxHeartbeats 1000000 in
theorem rNormal_calls (v : Value) (l : List (Int × Int)) (w : World) (h : PairsAt w v l) : GivesPts Try.prog 43 #[v] w (nrmL l) (validF l) := by
  have HP := Lib.hid h
  obtain ⟨sa, cap, rfl, hlc, hcm, _⟩ := h
  have HN : Hid (nrmL l = if validF l = 0 then normF l else []) := rfl
  obtain ⟨L, hL⟩ : ∃ L, nrmL l = L := ⟨_, rfl⟩
  rw [hL] at HN ⊢
  clear hL
  obtain ⟨e, he⟩ : ∃ e, validF l = e := ⟨_, rfl⟩
  have HE := Lib.hid he
  rw [he]
  clear he
  unfold GivesPts
  by_cases hz : e = 0
  · subst hz
    go_enter Try.func43, Try.ntmps43
    go_wp2_with (first | (go_at_call 28; (with_reducible refine (rvalidate_is _ (HP.out.below (by (repeat' (first | exact Below.refl _ _ | assumption | refine below_new ?_ _ | refine below_draw ?_ | refine below_tail (by assumption) ?_ | refine below_set ?_ (by first | omega | (simp <;> omega)) _)))) HE.out).use ?_); intro w1 hb1 hz1 hc1 hf1; clear hc1 hf1) | (go_at_call 94; refine (rnormal_calls _ l _ (HP.out.below (by (repeat' (first | exact Below.refl _ _ | assumption | refine below_new ?_ _ | refine below_draw ?_ | refine below_tail (by assumption) ?_ | refine below_set ?_ (by first | omega | (simp <;> omega)) _)))) (valid_iff.1 HE.out)).mono ?_; rintro e w2 ⟨v2, rfl, hown2, hb2⟩))
    go_ret2
    exact ⟨_, rfl, by rw [HN.out, if_pos HE.out]; exact own_base hown2 (by omega), by (repeat' (first | exact Below.refl _ _ | assumption | refine below_new ?_ _ | refine below_draw ?_ | refine below_tail (by assumption) ?_ | refine below_set ?_ (by first | omega | (simp <;> omega)) _))⟩
  · have h1 : (e == 0) = false := by simpa using hz
    have h2 : (e != 0) = true := by simpa using hz
    have HZ := Lib.hid hz
    clear hz
    go_enter Try.func43, Try.ntmps43
    go_wp2_with (go_at_call 28; (with_reducible refine (rvalidate_is _ (HP.out.below (by (repeat' (first | exact Below.refl _ _ | assumption | refine below_new ?_ _ | refine below_draw ?_ | refine below_tail (by assumption) ?_ | refine below_set ?_ (by first | omega | (simp <;> omega)) _)))) HE.out).use ?_); intro w1 hb1 hz1 hc1 hf1; clear hc1 hf1)
    go_ret2
    exact ⟨_, rfl, by rw [HN.out, if_neg (by rw [HE.out]; exact HZ.out)]; exact World.ownsRow_nil _ _ _ _, by (repeat' (first | exact Below.refl _ _ | assumption | refine below_new ?_ _ | refine below_draw ?_ | refine below_tail (by assumption) ?_ | refine below_set ?_ (by first | omega | (simp <;> omega)) _))⟩
set_option maxHeartbeats 1000000 in
theorem Same_calls (v1 v2 : Value) (p q : List (Int × Int)) (w : World) (h1 : PairsAt w v1 p) (h2 : PairsAt w v2 q) : Gives Try.prog 44 #[v1, v2] w (.tuple #[.bool (sameB p q), .int .i64 (sameE p q)]) := by
  have HP := Lib.hid h1
  have HQ := Lib.hid h2
  obtain ⟨sa, cap, rfl, hlc, hcm, _⟩ := h1
  obtain ⟨sb, cbp, rfl, hlb, hbm, _⟩ := h2
  have HB : Hid (sameB p q = if validF p = 0 ∧ validF q = 0 then decide (normF p = normF q) else false) := rfl
  have HS : Hid (sameE p q = if validF p = 0 then validF q else validF p) := rfl
  obtain ⟨bb, hbb⟩ : ∃ L, sameB p q = L := ⟨_, rfl⟩
  obtain ⟨ss, hss⟩ : ∃ L, sameE p q = L := ⟨_, rfl⟩
  rw [hbb] at HB ⊢
  rw [hss] at HS ⊢
  clear hbb hss
  obtain ⟨e, he⟩ : ∃ e, validF p = e := ⟨_, rfl⟩
  obtain ⟨d, hd⟩ : ∃ e, validF q = e := ⟨_, rfl⟩
  have HE := Lib.hid he
  have HD := Lib.hid hd
  clear he hd
  unfold Gives
  by_cases hz : e = 0
  · subst hz
    by_cases hy : d = 0
    · subst hy
      have HR : Hid (decide (normF p = normF q) = bb) := by unfold Hid; rw [HB.out, if_pos ⟨HE.out, HD.out⟩]
      go_enter Try.func44, Try.ntmps44
      go_wp2_with (first | (go_at_call 27; first | ((with_reducible refine (validate_is _ (HP.out.below (by (repeat' (first | exact Below.refl _ _ | assumption | refine below_new ?_ _ | refine below_draw ?_ | refine below_tail (by assumption) ?_ | refine below_set ?_ (by first | omega | (simp <;> omega)) _)))) HE.out).use ?_); intro w1 hb1 hz1 hc1 hf1; clear hc1 hf1 hz1) | ((with_reducible refine (validate_is _ (HQ.out.below (by (repeat' (first | exact Below.refl _ _ | assumption | refine below_new ?_ _ | refine below_draw ?_ | refine below_tail (by assumption) ?_ | refine below_set ?_ (by first | omega | (simp <;> omega)) _)))) HD.out).use ?_); intro w2 hb2 hz2 hc2 hf2; clear hc2 hf2 hz2)) | (go_at_call 93; first | ((with_reducible refine (normal_calls _ p _ (HP.out.below (by (repeat' (first | exact Below.refl _ _ | assumption | refine below_new ?_ _ | refine below_draw ?_ | refine below_tail (by assumption) ?_ | refine below_set ?_ (by first | omega | (simp <;> omega)) _)))) (valid_iff.1 HE.out)).mono ?_); rintro e w3 ⟨v3, rfl, hown3, hb3⟩; have HO3 := Lib.hid (own_pairs hown3); clear hown3) | ((with_reducible refine (normal_calls _ q _ (HQ.out.below (by (repeat' (first | exact Below.refl _ _ | assumption | refine below_new ?_ _ | refine below_draw ?_ | refine below_tail (by assumption) ?_ | refine below_set ?_ (by first | omega | (simp <;> omega)) _)))) (valid_iff.1 HD.out)).mono ?_); rintro e w4 ⟨v4, rfl, hown4, hb4⟩; have HO4 := Lib.hid (own_pairs hown4); clear hown4)) | (go_at_call 95; (with_reducible refine (equalP_is _ (HO3.out.below (by (repeat' (first | exact Below.refl _ _ | assumption | refine below_new ?_ _ | refine below_draw ?_ | refine below_tail (by assumption) ?_ | refine below_set ?_ (by first | omega | (simp <;> omega)) _)))) HO4.out HR.out).use ?_); intro w5 hb5 hz5 hc5 hf5; clear hc5 hf5 hz5))
      go_ret2
      exact ⟨by rw [HS.out, if_pos HE.out, HD.out]; rfl, by (repeat' (first | exact Below.refl _ _ | assumption | refine below_new ?_ _ | refine below_draw ?_ | refine below_tail (by assumption) ?_ | refine below_set ?_ (by first | omega | (simp <;> omega)) _))⟩
    · have y1 : (d == 0) = false := by simpa using hy
      have y2 : (d != 0) = true := by simpa using hy
      have HZ := Lib.hid hy
      clear hy
      go_enter Try.func44, Try.ntmps44
      go_wp2_with (go_at_call 27; first | ((with_reducible refine (validate_is _ (HP.out.below (by (repeat' (first | exact Below.refl _ _ | assumption | refine below_new ?_ _ | refine below_draw ?_ | refine below_tail (by assumption) ?_ | refine below_set ?_ (by first | omega | (simp <;> omega)) _)))) HE.out).use ?_); intro w1 hb1 hz1 hc1 hf1; clear hc1 hf1 hz1) | ((with_reducible refine (validate_is _ (HQ.out.below (by (repeat' (first | exact Below.refl _ _ | assumption | refine below_new ?_ _ | refine below_draw ?_ | refine below_tail (by assumption) ?_ | refine below_set ?_ (by first | omega | (simp <;> omega)) _)))) HD.out).use ?_); intro w2 hb2 hz2 hc2 hf2; clear hc2 hf2 hz2))
      go_ret2
      exact ⟨by rw [HS.out, if_pos HE.out, HD.out, HB.out, if_neg (fun h => HZ.out (HD.out.symm.trans h.2))]; rfl, by (repeat' (first | exact Below.refl _ _ | assumption | refine below_new ?_ _ | refine below_draw ?_ | refine below_tail (by assumption) ?_ | refine below_set ?_ (by first | omega | (simp <;> omega)) _))⟩
  · have h1 : (e == 0) = false := by simpa using hz
    have h2 : (e != 0) = true := by simpa using hz
    have HZ := Lib.hid hz
    clear hz
    go_enter Try.func44, Try.ntmps44
    go_wp2_with (go_at_call 27; (with_reducible refine (validate_is _ (HP.out.below (by (repeat' (first | exact Below.refl _ _ | assumption | refine below_new ?_ _ | refine below_draw ?_ | refine below_tail (by assumption) ?_ | refine below_set ?_ (by first | omega | (simp <;> omega)) _)))) HE.out).use ?_); intro w1 hb1 hz1 hc1 hf1; clear hc1 hf1 hz1)
    go_ret2
    exact ⟨by rw [HS.out, if_neg (by rw [HE.out]; exact HZ.out), HE.out, HB.out, if_neg (fun h => HZ.out (HE.out.symm.trans h.1))]; rfl, by (repeat' (first | exact Below.refl _ _ | assumption | refine below_new ?_ _ | refine below_draw ?_ | refine below_tail (by assumption) ?_ | refine below_set ?_ (by first | omega | (simp <;> omega)) _))⟩
set_option maxHeartbeats 1000000 in
theorem rSame_calls (v1 v2 : Value) (p q : List (Int × Int)) (w : World) (h1 : PairsAt w v1 p) (h2 : PairsAt w v2 q) : Gives Try.prog 45 #[v1, v2] w (.tuple #[.bool (sameB p q), .int .i64 (sameE p q)]) := by
  have HP := Lib.hid h1
  have HQ := Lib.hid h2
  obtain ⟨sa, cap, rfl, hlc, hcm, _⟩ := h1
  obtain ⟨sb, cbp, rfl, hlb, hbm, _⟩ := h2
  have HB : Hid (sameB p q = if validF p = 0 ∧ validF q = 0 then decide (normF p = normF q) else false) := rfl
  have HS : Hid (sameE p q = if validF p = 0 then validF q else validF p) := rfl
  obtain ⟨bb, hbb⟩ : ∃ L, sameB p q = L := ⟨_, rfl⟩
  obtain ⟨ss, hss⟩ : ∃ L, sameE p q = L := ⟨_, rfl⟩
  rw [hbb] at HB ⊢
  rw [hss] at HS ⊢
  clear hbb hss
  obtain ⟨e, he⟩ : ∃ e, validF p = e := ⟨_, rfl⟩
  obtain ⟨d, hd⟩ : ∃ e, validF q = e := ⟨_, rfl⟩
  have HE := Lib.hid he
  have HD := Lib.hid hd
  clear he hd
  unfold Gives
  by_cases hz : e = 0
  · subst hz
    by_cases hy : d = 0
    · subst hy
      have HR : Hid (decide (normF p = normF q) = bb) := by unfold Hid; rw [HB.out, if_pos ⟨HE.out, HD.out⟩]
      go_enter Try.func45, Try.ntmps45
      go_wp2_with (first | (go_at_call 28; first | ((with_reducible refine (rvalidate_is _ (HP.out.below (by (repeat' (first | exact Below.refl _ _ | assumption | refine below_new ?_ _ | refine below_draw ?_ | refine below_tail (by assumption) ?_ | refine below_set ?_ (by first | omega | (simp <;> omega)) _)))) HE.out).use ?_); intro w1 hb1 hz1 hc1 hf1; clear hc1 hf1 hz1) | ((with_reducible refine (rvalidate_is _ (HQ.out.below (by (repeat' (first | exact Below.refl _ _ | assumption | refine below_new ?_ _ | refine below_draw ?_ | refine below_tail (by assumption) ?_ | refine below_set ?_ (by first | omega | (simp <;> omega)) _)))) HD.out).use ?_); intro w2 hb2 hz2 hc2 hf2; clear hc2 hf2 hz2)) | (go_at_call 94; first | ((with_reducible refine (rnormal_calls _ p _ (HP.out.below (by (repeat' (first | exact Below.refl _ _ | assumption | refine below_new ?_ _ | refine below_draw ?_ | refine below_tail (by assumption) ?_ | refine below_set ?_ (by first | omega | (simp <;> omega)) _)))) (valid_iff.1 HE.out)).mono ?_); rintro e w3 ⟨v3, rfl, hown3, hb3⟩; have HO3 := Lib.hid (own_pairs hown3); clear hown3) | ((with_reducible refine (rnormal_calls _ q _ (HQ.out.below (by (repeat' (first | exact Below.refl _ _ | assumption | refine below_new ?_ _ | refine below_draw ?_ | refine below_tail (by assumption) ?_ | refine below_set ?_ (by first | omega | (simp <;> omega)) _)))) (valid_iff.1 HD.out)).mono ?_); rintro e w4 ⟨v4, rfl, hown4, hb4⟩; have HO4 := Lib.hid (own_pairs hown4); clear hown4)) | (go_at_call 33; (with_reducible refine (samePtsG_is _ (HO3.out.below (by (repeat' (first | exact Below.refl _ _ | assumption | refine below_new ?_ _ | refine below_draw ?_ | refine below_tail (by assumption) ?_ | refine below_set ?_ (by first | omega | (simp <;> omega)) _)))) HO4.out HR.out).use ?_); intro w5 hb5 hz5 hc5 hf5; clear hc5 hf5 hz5))
      go_ret2
      exact ⟨by rw [HS.out, if_pos HE.out, HD.out]; rfl, by (repeat' (first | exact Below.refl _ _ | assumption | refine below_new ?_ _ | refine below_draw ?_ | refine below_tail (by assumption) ?_ | refine below_set ?_ (by first | omega | (simp <;> omega)) _))⟩
    · have y1 : (d == 0) = false := by simpa using hy
      have y2 : (d != 0) = true := by simpa using hy
      have HZ := Lib.hid hy
      clear hy
      go_enter Try.func45, Try.ntmps45
      go_wp2_with (go_at_call 28; first | ((with_reducible refine (rvalidate_is _ (HP.out.below (by (repeat' (first | exact Below.refl _ _ | assumption | refine below_new ?_ _ | refine below_draw ?_ | refine below_tail (by assumption) ?_ | refine below_set ?_ (by first | omega | (simp <;> omega)) _)))) HE.out).use ?_); intro w1 hb1 hz1 hc1 hf1; clear hc1 hf1 hz1) | ((with_reducible refine (rvalidate_is _ (HQ.out.below (by (repeat' (first | exact Below.refl _ _ | assumption | refine below_new ?_ _ | refine below_draw ?_ | refine below_tail (by assumption) ?_ | refine below_set ?_ (by first | omega | (simp <;> omega)) _)))) HD.out).use ?_); intro w2 hb2 hz2 hc2 hf2; clear hc2 hf2 hz2))
      go_ret2
      exact ⟨by rw [HS.out, if_pos HE.out, HD.out, HB.out, if_neg (fun h => HZ.out (HD.out.symm.trans h.2))]; rfl, by (repeat' (first | exact Below.refl _ _ | assumption | refine below_new ?_ _ | refine below_draw ?_ | refine below_tail (by assumption) ?_ | refine below_set ?_ (by first | omega | (simp <;> omega)) _))⟩
  · have h1 : (e == 0) = false := by simpa using hz
    have h2 : (e != 0) = true := by simpa using hz
    have HZ := Lib.hid hz
    clear hz
    go_enter Try.func45, Try.ntmps45
    go_wp2_with (go_at_call 28; (with_reducible refine (rvalidate_is _ (HP.out.below (by (repeat' (first | exact Below.refl _ _ | assumption | refine below_new ?_ _ | refine below_draw ?_ | refine below_tail (by assumption) ?_ | refine below_set ?_ (by first | omega | (simp <;> omega)) _)))) HE.out).use ?_); intro w1 hb1 hz1 hc1 hf1; clear hc1 hf1 hz1)
    go_ret2
    exact ⟨by rw [HS.out, if_neg (by rw [HE.out]; exact HZ.out), HE.out, HB.out, if_neg (fun h => HZ.out (HE.out.symm.trans h.1))]; rfl, by (repeat' (first | exact Below.refl _ _ | assumption | refine below_new ?_ _ | refine below_draw ?_ | refine below_tail (by assumption) ?_ | refine below_set ?_ (by first | omega | (simp <;> omega)) _))⟩
end Go.Proofs.Ythiemglckmociaa
