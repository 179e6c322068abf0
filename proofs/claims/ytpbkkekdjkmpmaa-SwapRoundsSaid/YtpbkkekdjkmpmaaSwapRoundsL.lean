/- For all lists the law SwapRounds returns true. Conditions: the lists lie in memory as said. -/
import Derived.Test.YtpbkkekdjkmpmaaSwRTrade
import Derived.Test.YtpbkkekdjkmpmaaSwapFirstL
namespace Go.Proofs.Ytpbkkekdjkmpmaa
open Go.RowKit

set_option maxHeartbeats 1000000 in
theorem rTrade_calls (v : Value) (L : List (List Int)) (w : World) (h : TableAt w v L) :
    GivesIE Try.prog 17 #[v] w (tradeR L) (vE L) := by
  have HT := Lib.hid h
  obtain ⟨sa, cap, rfl, hlc, hcm, -⟩ := h
  unfold GivesIE
  obtain ⟨e, he⟩ : ∃ e, vE L = e := ⟨_, rfl⟩
  have HE := Lib.hid he
  by_cases h0 : e = 0
  · subst h0
    have H1 : Hid (tradeR L = tradeL L) := if_pos he
    clear he
    go_enter Try.func17, Try.ntmps17
    go_wp2_with (first | (go_at_call 13; refine (rvalidate_is HT.out HE.out).use ?_; intro w1 hb1 hz1 hc1 hf1; clear hc1 hf1) | (go_at_call 40; refine (rtrade_calls _ L _ (HT.out.below (by (repeat' (first | exact Below.refl _ _ | assumption | refine below_new ?_ _ | refine below_draw ?_ | refine below_tail (by assumption) ?_ | refine below_set ?_ (by first | omega | (simp <;> omega)) _)))) (vE_0 HE.out)).mono ?_; rintro e2 w2 ⟨v2, rfl, hi2, hb2⟩; have HI := Lib.hid hi2; clear hi2))
    refine bodyPost_ret (v := .tuple #[v2, .int .i64 0]) (by simp [results, Try.f17, go_sem]) rfl ?_
    exact ⟨_, by rw [HE.out], by rw [H1.out]; exact HI.out, by (repeat' (first | exact Below.refl _ _ | assumption | refine below_new ?_ _ | refine below_draw ?_ | refine below_tail (by assumption) ?_ | refine below_set ?_ (by first | omega | (simp <;> omega)) _))⟩
  · have h1 : (e == 0) = false := by simpa using h0
    have h2 : (e != 0) = true := by simpa using h0
    have H1 : Hid (tradeR L = []) := if_neg (by rw [he]; exact h0)
    clear he h0
    go_enter Try.func17, Try.ntmps17
    go_wp2_with (go_at_call 13; refine (rvalidate_is HT.out HE.out).use ?_; intro w1 hb1 hz1 hc1 hf1; clear hc1 hf1)
    refine bodyPost_ret (v := .tuple #[.slice none 0 0, .int .i64 e]) (by simp [results, Try.f17, go_sem]) rfl ?_
    exact ⟨_, by rw [HE.out], by rw [H1.out]; exact ints0 _ _ _ (by decide), by (repeat' (first | exact Below.refl _ _ | assumption | refine below_new ?_ _ | refine below_draw ?_ | refine below_tail (by assumption) ?_ | refine below_set ?_ (by first | omega | (simp <;> omega)) _))⟩

set_option maxHeartbeats 2000000 in
theorem rTop_calls (v : Value) (L : List (List Int)) (w : World) (h : TableAt w v L) :
    GivesIE Try.prog 19 #[v] w (topR L) (vE L) := by
  have HT := Lib.hid h
  obtain ⟨sa, cap, rfl, hlc, hcm, -⟩ := h
  unfold GivesIE
  obtain ⟨e, he⟩ : ∃ e, vE L = e := ⟨_, rfl⟩
  have HE := Lib.hid he
  by_cases h0 : e = 0
  · subst h0
    have H1 : Hid (topR L = topL L L.length) := if_pos he
    have HV := Lib.hid (vE_0 he)
    have h15 := vB_len (vE_0 he)
    obtain ⟨i0, hi0, hz0, hi1, hi2⟩ := info_parts infoInt
    clear he
    go_enter Try.func19, Try.ntmps19
    go_wp2_with (go_at_call 13; refine (rvalidate_is HT.out HE.out).use ?_; intro w1 hb1 hz1 hc1 hf1; clear hc1 hf1)
    go_loopw [5, 6] (fun v i wr => ∃ k : Nat, k ≤ L.length ∧ i = .int .i64 k ∧ Hid (Below w1.heap.size w1 wr) ∧ Hid (wr.ownsRow w1.heap.size 3 1 v k (cells1 (topL L k)))) (fun v i _ => L.length - (intOf i).toNat)
    case atStart => exact ⟨0, Nat.zero_le _, rfl, Below.refl _ _, World.ownsRow_nil _ _ _ _⟩
    case round =>
      obtain ⟨k, hk, rfl, hb, how⟩ := hrel
      by_cases hlt : k < L.length
      · obtain ⟨b, o, u, rfl, hB, hcell, hu⟩ := (HT.out.below (below_tail hb.out hb1)).row hlt
        have hlen := (vB_ord HV.out hlt).1
        have HU := Lib.hid hu
        obtain ⟨ua, uc, rfl, -⟩ := hu
        obtain ⟨b2, o2, rfl, hB2, hcell2⟩ := HU.out.cellAt (m := 0) (by omega)
        rw [Nat.add_zero] at hcell2
        have hpos : (0 : Int) < ((gi L [] k).length : Int) := by omega
        obtain ⟨x, hx⟩ : ∃ x, gi (gi L [] k) 0 0 = x := ⟨_, rfl⟩
        have HX : Hid (topL L (k + 1) = topL L k ++ [x]) := by show _ = _; rw [topL_succ, hx]
        rw [hx] at hcell2
        clear hx hlen
        go_wp2_with (at_builtin; refine wpList_append_own _ rfl _ _ 35 rfl w1.heap.size 3 i0 (.int .i64 0) 1 8 Try.underlying35 hi0 hz0 hi1 hi2 rfl (by decide) _ _ _ rfl (how.out.alloc _) ⟨wr.heap.size, 0, none⟩ 1 1 [.int .i64 x] rfl rfl (app_src1 _ _ _) (one_int _) (by unfold maxLen; omega) (by omega) (by have := hb.out.size; simp; omega) ?_; intro v' w4 hown4 hgrow _)
        go_roundw
        case rel => exact ⟨k + 1, by omega, by go_num, below_app hb.out (Nat.le_refl _) hgrow (fun j hj => (how.out.lt j hj).1), by unfold Hid; rw [HX.out, cells1_append]; exact hown4⟩
        case measure => simp [intOf]; omega
      · obtain rfl : k = L.length := by omega
        obtain ⟨va, vc, rfl⟩ := own_slice how.out
        have HI : Hid (IntsAt wr (.slice va L.length vc) (topL L L.length)) := own_ints (by rw [topL_length]; exact how.out)
        go_wp2
        refine bodyPost_ret (v := .tuple #[.slice va L.length vc, .int .i64 0]) (by simp [results, Try.f19, go_sem]) rfl ?_
        exact ⟨_, by rw [HE.out], by rw [H1.out]; exact HI.out, below_tail hb.out hb1⟩
  · have h1 : (e == 0) = false := by simpa using h0
    have h2 : (e != 0) = true := by simpa using h0
    have H1 : Hid (topR L = []) := if_neg (by rw [he]; exact h0)
    clear he h0
    go_enter Try.func19, Try.ntmps19
    go_wp2_with (go_at_call 13; refine (rvalidate_is HT.out HE.out).use ?_; intro w1 hb1 hz1 hc1 hf1; clear hc1 hf1)
    refine bodyPost_ret (v := .tuple #[.slice none 0 0, .int .i64 e]) (by simp [results, Try.f19, go_sem]) rfl ?_
    exact ⟨_, by rw [HE.out], by rw [H1.out]; exact ints0 _ _ _ (by decide), by (repeat' (first | exact Below.refl _ _ | assumption | refine below_new ?_ _ | refine below_draw ?_ | refine below_tail (by assumption) ?_ | refine below_set ?_ (by first | omega | (simp <;> omega)) _))⟩
set_option maxHeartbeats 1000000 in
theorem sameTables_calls (a b : Value) (l : List (List Int)) (w : World) (ha : TableAt w a l) (hb : TableAt w b l) :
    Gives Try.prog 41 #[a, b] w (.bool true) := by
  have HA := Lib.hid ha
  have HB := Lib.hid hb
  obtain ⟨aa, ac, rfl, hal, ham, _⟩ := ha
  obtain ⟨ba, bc, rfl, hbl, hbm, _⟩ := hb
  unfold Gives
  have h1 : ((l.length : Int) != (l.length : Int)) = false := by simp
  go_enter Try.func41, Try.ntmps41
  go_wp2
  go_loopw [5] (fun i wr => ∃ k : Nat, k ≤ l.length ∧ i = .int .i64 k ∧ Below w.heap.size w wr) (fun i _ => l.length - (intOf i).toNat)
  case atStart => exact ⟨0, Nat.zero_le _, rfl, Below.refl _ _⟩
  case round =>
    obtain ⟨k, hk, rfl, hb⟩ := hrel
    by_cases hlt : k < l.length
    · obtain ⟨ab, ao, u, rfl, hA, hcella, hu⟩ := (HA.out.below hb).row hlt
      obtain ⟨bb, bo, v, rfl, hB, hcellb, hv⟩ := (HB.out.below hb).row hlt
      have HU := Lib.hid hu
      have HV := Lib.hid hv
      obtain ⟨ua, uc, rfl, -⟩ := hu
      obtain ⟨va, vc, rfl, -⟩ := hv
      have q0 := fun d os => cell_regrown hcella d os
      have q1 := fun d os => cell_regrown hcellb d os
      clear hcella hcellb
      go_wp2
      refine region_q mixed (by kernel_rfl) ?_
      repeat (go_big_quiet_step ((go_at_call 21; exact Gives.regrown (sameInts_is (HU.out.below (below_regrown _ _ _)) (HV.out.below (below_regrown _ _ _)) (decide_eq_true rfl)))))
      refine wpQuiet_nil ?_
      intro wq hbq
      clear q0 q1
      go_wp2
      go_roundw
      case rel => exact ⟨k + 1, by omega, by go_num, by (repeat' (first | exact Below.refl _ _ | assumption | refine below_new ?_ _ | refine below_draw ?_ | refine below_tail (by assumption) ?_ | refine below_set ?_ (by first | omega | (simp <;> omega)) _))⟩
      case measure => simp [intOf]; omega
    · obtain rfl : k = l.length := by omega
      go_wp2
      go_ret
      exact ⟨rfl, hb⟩
set_option maxHeartbeats 1000000 in
theorem sameRounds_calls (a b : Value) (l : List (List (List Int))) (w : World) (ha : RoundsAt w a l) (hb : RoundsAt w b l) :
    Gives Try.prog 20 #[a, b] w (.bool true) := by
  have HA := Lib.hid ha
  have HB := Lib.hid hb
  obtain ⟨aa, ac, rfl, hal, ham, _⟩ := ha
  obtain ⟨ba, bc, rfl, hbl, hbm, _⟩ := hb
  unfold Gives
  have h1 : ((l.length : Int) != (l.length : Int)) = false := by simp
  go_enter Try.func20, Try.ntmps20
  go_wp2
  go_loopw [5] (fun i wr => ∃ k : Nat, k ≤ l.length ∧ i = .int .i64 k ∧ Below w.heap.size w wr) (fun i _ => l.length - (intOf i).toNat)
  case atStart => exact ⟨0, Nat.zero_le _, rfl, Below.refl _ _⟩
  case round =>
    obtain ⟨k, hk, rfl, hb⟩ := hrel
    by_cases hlt : k < l.length
    · obtain ⟨ab, ao, u, rfl, hA, hcella, hu⟩ := (HA.out.below hb).row hlt
      obtain ⟨bb, bo, v, rfl, hB, hcellb, hv⟩ := (HB.out.below hb).row hlt
      have HU := Lib.hid hu
      have HV := Lib.hid hv
      obtain ⟨ua, uc, rfl, -⟩ := hu
      obtain ⟨va, vc, rfl, -⟩ := hv
      have q0 := fun d os => cell_regrown hcella d os
      have q1 := fun d os => cell_regrown hcellb d os
      clear hcella hcellb
      go_wp2
      refine region_q mixed (by kernel_rfl) ?_
      repeat (go_big_quiet_step ((go_at_call 41; exact Gives.regrown (sameTables_calls _ _ _ _ (HU.out.below (below_regrown _ _ _)) (HV.out.below (below_regrown _ _ _))))))
      refine wpQuiet_nil ?_
      intro wq hbq
      clear q0 q1
      go_wp2
      go_roundw
      case rel => exact ⟨k + 1, by omega, by go_num, by (repeat' (first | exact Below.refl _ _ | assumption | refine below_new ?_ _ | refine below_draw ?_ | refine below_tail (by assumption) ?_ | refine below_set ?_ (by first | omega | (simp <;> omega)) _))⟩
      case measure => simp [intOf]; omega
    · obtain rfl : k = l.length := by omega
      go_wp2
      go_ret
      exact ⟨rfl, hb⟩
theorem rTrade_is {v : Value} {L : List (List Int)} {l : List Int} {e : Int} {w : World} (h : TableAt w v L) (hl : tradeR L = l) (he : vE L = e) :
    GivesIE Try.prog 17 #[v] w l e := hl ▸ he ▸ rTrade_calls v L w h
theorem rTop_is {v : Value} {L : List (List Int)} {l : List Int} {e : Int} {w : World} (h : TableAt w v L) (hl : topR L = l) (he : vE L = e) :
    GivesIE Try.prog 19 #[v] w l e := hl ▸ he ▸ rTop_calls v L w h
theorem rRounds_is {v : Value} {L : List (List Int)} {l : List (List (List Int))} {e : Int} {w : World} (h : TableAt w v L) (hl : roundsR L = l) (he : vE L = e) :
    GivesRE Try.prog 15 #[v] w l e := hl ▸ he ▸ rRounds_calls v L w h
set_option maxHeartbeats 4000000 in
set_option maxRecDepth 100000 in
theorem swapRounds_calls (v : Value) (L : List (List Int)) (w : World) (h : TableAt w v L) :
    Gives Try.prog 4 #[v] w (.bool true) := by
  have HP := Lib.hid h
  obtain ⟨sa, cap, rfl, hlc, hcm, -⟩ := h
  unfold Gives
  obtain ⟨lg, hlg⟩ : ∃ t, longB L 0 = t := ⟨_, rfl⟩
  have HLO := Lib.hid hlg
  clear hlg
  cases lg
  · obtain ⟨e, he⟩ : ∃ t, vE L = t := ⟨_, rfl⟩
    have HE := Lib.hid he
    obtain ⟨lo, hlo⟩ : ∃ l, tradeR L = l := ⟨_, rfl⟩
    obtain ⟨lr, hlr⟩ : ∃ l, roundsR L = l := ⟨_, rfl⟩
    obtain ⟨lt, hlt⟩ : ∃ l, topR L = l := ⟨_, rfl⟩
    have HO := Lib.hid hlo
    have HR := Lib.hid hlr
    have HT := Lib.hid hlt
    have h1 : (e == e) = true := by simp
    clear he hlo hlr hlt
    go_enter Try.func4, Try.ntmps4
    go_wp2_with (first | (go_at_call 8; (with_reducible refine (long_is (HP.out.below (by (repeat' (first | exact Below.refl _ _ | assumption | refine below_new ?_ _ | refine below_draw ?_ | refine below_tail (by assumption) ?_ | refine below_set ?_ (by first | omega | (simp <;> omega)) _)))) HLO.out).use ?_)) | (go_at_call 9; (with_reducible refine (known_calls _).use ?_); intro wk hbk hzk hck hfk; clear hck hfk) | (go_at_call 14; (with_reducible refine (Rounds_is (HP.out.below (by (repeat' (first | exact Below.refl _ _ | assumption | refine below_new ?_ _ | refine below_draw ?_ | refine below_tail (by assumption) ?_ | refine below_set ?_ (by first | omega | (simp <;> omega)) _)))) HR.out HE.out).calls.mono ?_); rintro e w1 ⟨v1, rfl, hi1, hb1⟩; have HI1 := Lib.hid hi1; clear hi1) | (go_at_call 15; (with_reducible refine (rRounds_is (HP.out.below (by (repeat' (first | exact Below.refl _ _ | assumption | refine below_new ?_ _ | refine below_draw ?_ | refine below_tail (by assumption) ?_ | refine below_set ?_ (by first | omega | (simp <;> omega)) _)))) HR.out HE.out).calls.mono ?_); rintro e w2 ⟨v2, rfl, hi2, hb2⟩; have HI2 := Lib.hid hi2; clear hi2) | (go_at_call 16; (with_reducible refine (Trade_is (HP.out.below (by (repeat' (first | exact Below.refl _ _ | assumption | refine below_new ?_ _ | refine below_draw ?_ | refine below_tail (by assumption) ?_ | refine below_set ?_ (by first | omega | (simp <;> omega)) _)))) HO.out HE.out).calls.mono ?_); rintro e w3 ⟨v3, rfl, hi3, hb3⟩; have HI3 := Lib.hid hi3; clear hi3) | (go_at_call 17; (with_reducible refine (rTrade_is (HP.out.below (by (repeat' (first | exact Below.refl _ _ | assumption | refine below_new ?_ _ | refine below_draw ?_ | refine below_tail (by assumption) ?_ | refine below_set ?_ (by first | omega | (simp <;> omega)) _)))) HO.out HE.out).calls.mono ?_); rintro e w4 ⟨v4, rfl, hi4, hb4⟩; have HI4 := Lib.hid hi4; clear hi4) | (go_at_call 18; (with_reducible refine (Top_is (HP.out.below (by (repeat' (first | exact Below.refl _ _ | assumption | refine below_new ?_ _ | refine below_draw ?_ | refine below_tail (by assumption) ?_ | refine below_set ?_ (by first | omega | (simp <;> omega)) _)))) HT.out HE.out).calls.mono ?_); rintro e w5 ⟨v5, rfl, hi5, hb5⟩; have HI5 := Lib.hid hi5; clear hi5) | (go_at_call 19; (with_reducible refine (rTop_is (HP.out.below (by (repeat' (first | exact Below.refl _ _ | assumption | refine below_new ?_ _ | refine below_draw ?_ | refine below_tail (by assumption) ?_ | refine below_set ?_ (by first | omega | (simp <;> omega)) _)))) HT.out HE.out).calls.mono ?_); rintro e w6 ⟨v6, rfl, hi6, hb6⟩; have HI6 := Lib.hid hi6; clear hi6) | (go_at_call 20; (with_reducible refine (sameRounds_calls _ _ _ _ (HI1.out.below (by (repeat' (first | exact Below.refl _ _ | assumption | refine below_new ?_ _ | refine below_draw ?_ | refine below_tail (by assumption) ?_ | refine below_set ?_ (by first | omega | (simp <;> omega)) _)))) (HI2.out.below (by (repeat' (first | exact Below.refl _ _ | assumption | refine below_new ?_ _ | refine below_draw ?_ | refine below_tail (by assumption) ?_ | refine below_set ?_ (by first | omega | (simp <;> omega)) _))))).use ?_); intro w7 hb7 hz7 hc7 hf7; clear hc7 hf7) | (go_at_call 21; (with_reducible refine (sameInts_is (HI3.out.below (by (repeat' (first | exact Below.refl _ _ | assumption | refine below_new ?_ _ | refine below_draw ?_ | refine below_tail (by assumption) ?_ | refine below_set ?_ (by first | omega | (simp <;> omega)) _)))) (HI4.out.below (by (repeat' (first | exact Below.refl _ _ | assumption | refine below_new ?_ _ | refine below_draw ?_ | refine below_tail (by assumption) ?_ | refine below_set ?_ (by first | omega | (simp <;> omega)) _)))) (decide_eq_true rfl)).use ?_); intro w8 hb8 hz8 hc8 hf8; clear hc8 hf8) | (go_at_call 21; (with_reducible refine (sameInts_is (HI5.out.below (by (repeat' (first | exact Below.refl _ _ | assumption | refine below_new ?_ _ | refine below_draw ?_ | refine below_tail (by assumption) ?_ | refine below_set ?_ (by first | omega | (simp <;> omega)) _)))) (HI6.out.below (by (repeat' (first | exact Below.refl _ _ | assumption | refine below_new ?_ _ | refine below_draw ?_ | refine below_tail (by assumption) ?_ | refine below_set ?_ (by first | omega | (simp <;> omega)) _)))) (decide_eq_true rfl)).use ?_); intro w9 hb9 hz9 hc9 hf9; clear hc9 hf9))
    go_ret
    exact ⟨rfl, by (repeat' (first | exact Below.refl _ _ | assumption | refine below_new ?_ _ | refine below_draw ?_ | refine below_tail (by assumption) ?_ | refine below_set ?_ (by first | omega | (simp <;> omega)) _))⟩
  · go_enter Try.func4, Try.ntmps4
    go_wp2_with (first | (go_at_call 8; (with_reducible refine (long_is (HP.out.below (by (repeat' (first | exact Below.refl _ _ | assumption | refine below_new ?_ _ | refine below_draw ?_ | refine below_tail (by assumption) ?_ | refine below_set ?_ (by first | omega | (simp <;> omega)) _)))) HLO.out).use ?_)) | (go_at_call 9; (with_reducible refine (known_calls _).use ?_); intro wk hbk hzk hck hfk; clear hck hfk) | (go_at_call 14; (with_reducible refine (Rounds_is (HP.out.below (by (repeat' (first | exact Below.refl _ _ | assumption | refine below_new ?_ _ | refine below_draw ?_ | refine below_tail (by assumption) ?_ | refine below_set ?_ (by first | omega | (simp <;> omega)) _)))) HR.out HE.out).calls.mono ?_); rintro e w1 ⟨v1, rfl, hi1, hb1⟩; have HI1 := Lib.hid hi1; clear hi1) | (go_at_call 15; (with_reducible refine (rRounds_is (HP.out.below (by (repeat' (first | exact Below.refl _ _ | assumption | refine below_new ?_ _ | refine below_draw ?_ | refine below_tail (by assumption) ?_ | refine below_set ?_ (by first | omega | (simp <;> omega)) _)))) HR.out HE.out).calls.mono ?_); rintro e w2 ⟨v2, rfl, hi2, hb2⟩; have HI2 := Lib.hid hi2; clear hi2) | (go_at_call 16; (with_reducible refine (Trade_is (HP.out.below (by (repeat' (first | exact Below.refl _ _ | assumption | refine below_new ?_ _ | refine below_draw ?_ | refine below_tail (by assumption) ?_ | refine below_set ?_ (by first | omega | (simp <;> omega)) _)))) HO.out HE.out).calls.mono ?_); rintro e w3 ⟨v3, rfl, hi3, hb3⟩; have HI3 := Lib.hid hi3; clear hi3) | (go_at_call 17; (with_reducible refine (rTrade_is (HP.out.below (by (repeat' (first | exact Below.refl _ _ | assumption | refine below_new ?_ _ | refine below_draw ?_ | refine below_tail (by assumption) ?_ | refine below_set ?_ (by first | omega | (simp <;> omega)) _)))) HO.out HE.out).calls.mono ?_); rintro e w4 ⟨v4, rfl, hi4, hb4⟩; have HI4 := Lib.hid hi4; clear hi4) | (go_at_call 18; (with_reducible refine (Top_is (HP.out.below (by (repeat' (first | exact Below.refl _ _ | assumption | refine below_new ?_ _ | refine below_draw ?_ | refine below_tail (by assumption) ?_ | refine below_set ?_ (by first | omega | (simp <;> omega)) _)))) HT.out HE.out).calls.mono ?_); rintro e w5 ⟨v5, rfl, hi5, hb5⟩; have HI5 := Lib.hid hi5; clear hi5) | (go_at_call 19; (with_reducible refine (rTop_is (HP.out.below (by (repeat' (first | exact Below.refl _ _ | assumption | refine below_new ?_ _ | refine below_draw ?_ | refine below_tail (by assumption) ?_ | refine below_set ?_ (by first | omega | (simp <;> omega)) _)))) HT.out HE.out).calls.mono ?_); rintro e w6 ⟨v6, rfl, hi6, hb6⟩; have HI6 := Lib.hid hi6; clear hi6) | (go_at_call 20; (with_reducible refine (sameRounds_calls _ _ _ _ (HI1.out.below (by (repeat' (first | exact Below.refl _ _ | assumption | refine below_new ?_ _ | refine below_draw ?_ | refine below_tail (by assumption) ?_ | refine below_set ?_ (by first | omega | (simp <;> omega)) _)))) (HI2.out.below (by (repeat' (first | exact Below.refl _ _ | assumption | refine below_new ?_ _ | refine below_draw ?_ | refine below_tail (by assumption) ?_ | refine below_set ?_ (by first | omega | (simp <;> omega)) _))))).use ?_); intro w7 hb7 hz7 hc7 hf7; clear hc7 hf7) | (go_at_call 21; (with_reducible refine (sameInts_is (HI3.out.below (by (repeat' (first | exact Below.refl _ _ | assumption | refine below_new ?_ _ | refine below_draw ?_ | refine below_tail (by assumption) ?_ | refine below_set ?_ (by first | omega | (simp <;> omega)) _)))) (HI4.out.below (by (repeat' (first | exact Below.refl _ _ | assumption | refine below_new ?_ _ | refine below_draw ?_ | refine below_tail (by assumption) ?_ | refine below_set ?_ (by first | omega | (simp <;> omega)) _)))) (decide_eq_true rfl)).use ?_); intro w8 hb8 hz8 hc8 hf8; clear hc8 hf8) | (go_at_call 21; (with_reducible refine (sameInts_is (HI5.out.below (by (repeat' (first | exact Below.refl _ _ | assumption | refine below_new ?_ _ | refine below_draw ?_ | refine below_tail (by assumption) ?_ | refine below_set ?_ (by first | omega | (simp <;> omega)) _)))) (HI6.out.below (by (repeat' (first | exact Below.refl _ _ | assumption | refine below_new ?_ _ | refine below_draw ?_ | refine below_tail (by assumption) ?_ | refine below_set ?_ (by first | omega | (simp <;> omega)) _)))) (decide_eq_true rfl)).use ?_); intro w9 hb9 hz9 hc9 hf9; clear hc9 hf9))
    go_ret
    exact ⟨rfl, by (repeat' (first | exact Below.refl _ _ | assumption | refine below_new ?_ _ | refine below_draw ?_ | refine below_tail (by assumption) ?_ | refine below_set ?_ (by first | omega | (simp <;> omega)) _))⟩
end Go.Proofs.Ytpbkkekdjkmpmaa
