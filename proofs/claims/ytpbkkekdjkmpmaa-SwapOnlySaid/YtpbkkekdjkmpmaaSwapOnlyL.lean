/- For all lists and deals the law SwapOnly returns true. Conditions: they lie in memory as said. -/
import Derived.Test.YtpbkkekdjkmpmaaSwOnlyM
import Derived.Deep.RegionHeld3
namespace Go.Proofs.Ytpbkkekdjkmpmaa
open Go.RowKit

theorem IsStable_is {v u : Value} {L : List (List Int)} {D : List Int} {t : Bool} {w : World} (h : TableAt w v L) (hu : IntsAt w u D) (he : oE L D = 0) (ht : (!blkFrom L D 1) = t) :
    Gives Try.prog 23 #[v, u] w (.tuple #[.bool t, .int .i64 0]) := ht ▸ IsStable_calls v u L D w h hu he
set_option maxHeartbeats 4000000 in
set_option maxRecDepth 100000 in
theorem swapOnly_calls (v u : Value) (L : List (List Int)) (D0 : List Int) (w : World) (h : TableAt w v L) (hq : IntsAt w u D0) :
    Gives Try.prog 6 #[v, u] w (.bool true) := by
  have HP := Lib.hid h
  have HQ := Lib.hid hq
  obtain ⟨sa, cap, rfl, hlc, hcm, -⟩ := h
  obtain ⟨ua, uc, rfl, huc, hum, -⟩ := hq
  unfold Gives
  obtain ⟨lg, hlg⟩ : ∃ t, longB L 0 = t := ⟨_, rfl⟩
  have HLO := Lib.hid hlg
  clear hlg
  obtain ⟨mn, hmn⟩ : ∃ t, decide (40 < (D0.length : Int)) = t := ⟨_, rfl⟩
  have HMA := Lib.hid hmn
  clear hmn
  cases lg
  · cases mn
    · obtain ⟨e, he⟩ : ∃ t, vE L = t := ⟨_, rfl⟩
      have HE := Lib.hid he
      obtain ⟨lo, hlo⟩ : ∃ l, tradeR L = l := ⟨_, rfl⟩
      have HO := Lib.hid hlo
      obtain ⟨oe, hoe⟩ : ∃ t, oE L D0 = t := ⟨_, rfl⟩
      have HOE := Lib.hid hoe
      by_cases hz : e = 0
      · subst hz
        by_cases hoz : oe = 0
        · subst hoz
          have hlo' : lo = tradeL L := by rw [← hlo]; exact if_pos he
          obtain ⟨q, hq2⟩ : ∃ q, decide (lo = D0) = q := ⟨_, rfl⟩
          have HEQ := Lib.hid hq2
          have HSD : Hid ((!blkFrom L D0 1) = q) := by show _ = _; rw [only_is (oE_0 hoe).1 (oE_0 hoe).2, ← hq2, hlo']
          have HOT : Hid (oE L lo = 0) := by show _ = _; rw [hlo']; exact trade_oE he
          have HST : Hid ((!blkFrom L lo 1) = true) := by show _ = _; rw [hlo', trade_blk (vE_0 he)]; rfl
          clear he hlo hlo' hoe hq2
          cases q
          · go_enter Try.func6, Try.ntmps6
            go_wp2_with (first | (go_at_call 8; (with_reducible refine (long_is (HP.out.below (by (repeat' (first | exact Below.refl _ _ | assumption | refine below_new ?_ _ | refine below_draw ?_ | refine below_tail (by assumption) ?_ | refine below_set ?_ (by first | omega | (simp <;> omega)) _)))) HLO.out).use ?_)) | (go_at_call 22; (with_reducible refine (many_is (HQ.out.below (by (repeat' (first | exact Below.refl _ _ | assumption | refine below_new ?_ _ | refine below_draw ?_ | refine below_tail (by assumption) ?_ | refine below_set ?_ (by first | omega | (simp <;> omega)) _)))) HMA.out).use ?_)) | (go_at_call 9; (with_reducible refine (known_calls _).use ?_); intro wk hbk hzk hck hfk; clear hck hfk) | (go_at_call 16; (with_reducible refine (Trade_is (HP.out.below (by (repeat' (first | exact Below.refl _ _ | assumption | refine below_new ?_ _ | refine below_draw ?_ | refine below_tail (by assumption) ?_ | refine below_set ?_ (by first | omega | (simp <;> omega)) _)))) HO.out HE.out).calls.mono ?_); rintro e w1 ⟨v1, rfl, hi1, hb1⟩; have HI1 := Lib.hid hi1; clear hi1) | (go_at_call 23; (with_reducible refine (IsStable_is (HP.out.below (by (repeat' (first | exact Below.refl _ _ | assumption | refine below_new ?_ _ | refine below_draw ?_ | refine below_tail (by assumption) ?_ | refine below_set ?_ (by first | omega | (simp <;> omega)) _)))) (HI1.out.below (by (repeat' (first | exact Below.refl _ _ | assumption | refine below_new ?_ _ | refine below_draw ?_ | refine below_tail (by assumption) ?_ | refine below_set ?_ (by first | omega | (simp <;> omega)) _)))) HOT.out HST.out).use ?_); intro w3 hb3 hz3 hc3 hf3; clear hc3 hf3) | (go_at_call 23; (with_reducible refine (IsStable_is (HP.out.below (by (repeat' (first | exact Below.refl _ _ | assumption | refine below_new ?_ _ | refine below_draw ?_ | refine below_tail (by assumption) ?_ | refine below_set ?_ (by first | omega | (simp <;> omega)) _)))) (HQ.out.below (by (repeat' (first | exact Below.refl _ _ | assumption | refine below_new ?_ _ | refine below_draw ?_ | refine below_tail (by assumption) ?_ | refine below_set ?_ (by first | omega | (simp <;> omega)) _)))) HOE.out HSD.out).use ?_); intro w2 hb2 hz2 hc2 hf2; clear hc2 hf2) | (go_at_call 21; (with_reducible refine (sameInts_is (HI1.out.below (by (repeat' (first | exact Below.refl _ _ | assumption | refine below_new ?_ _ | refine below_draw ?_ | refine below_tail (by assumption) ?_ | refine below_set ?_ (by first | omega | (simp <;> omega)) _)))) (HQ.out.below (by (repeat' (first | exact Below.refl _ _ | assumption | refine below_new ?_ _ | refine below_draw ?_ | refine below_tail (by assumption) ?_ | refine below_set ?_ (by first | omega | (simp <;> omega)) _)))) HEQ.out).use ?_); intro w4 hb4 hz4 hc4 hf4; clear hc4 hf4))
            go_ret
            exact ⟨rfl, by (repeat' (first | exact Below.refl _ _ | assumption | refine below_new ?_ _ | refine below_draw ?_ | refine below_tail (by assumption) ?_ | refine below_set ?_ (by first | omega | (simp <;> omega)) _))⟩
          · go_enter Try.func6, Try.ntmps6
            go_wp2_with (first | (go_at_call 8; (with_reducible refine (long_is (HP.out.below (by (repeat' (first | exact Below.refl _ _ | assumption | refine below_new ?_ _ | refine below_draw ?_ | refine below_tail (by assumption) ?_ | refine below_set ?_ (by first | omega | (simp <;> omega)) _)))) HLO.out).use ?_)) | (go_at_call 22; (with_reducible refine (many_is (HQ.out.below (by (repeat' (first | exact Below.refl _ _ | assumption | refine below_new ?_ _ | refine below_draw ?_ | refine below_tail (by assumption) ?_ | refine below_set ?_ (by first | omega | (simp <;> omega)) _)))) HMA.out).use ?_)) | (go_at_call 9; (with_reducible refine (known_calls _).use ?_); intro wk hbk hzk hck hfk; clear hck hfk) | (go_at_call 16; (with_reducible refine (Trade_is (HP.out.below (by (repeat' (first | exact Below.refl _ _ | assumption | refine below_new ?_ _ | refine below_draw ?_ | refine below_tail (by assumption) ?_ | refine below_set ?_ (by first | omega | (simp <;> omega)) _)))) HO.out HE.out).calls.mono ?_); rintro e w1 ⟨v1, rfl, hi1, hb1⟩; have HI1 := Lib.hid hi1; clear hi1) | (go_at_call 23; (with_reducible refine (IsStable_is (HP.out.below (by (repeat' (first | exact Below.refl _ _ | assumption | refine below_new ?_ _ | refine below_draw ?_ | refine below_tail (by assumption) ?_ | refine below_set ?_ (by first | omega | (simp <;> omega)) _)))) (HI1.out.below (by (repeat' (first | exact Below.refl _ _ | assumption | refine below_new ?_ _ | refine below_draw ?_ | refine below_tail (by assumption) ?_ | refine below_set ?_ (by first | omega | (simp <;> omega)) _)))) HOT.out HST.out).use ?_); intro w3 hb3 hz3 hc3 hf3; clear hc3 hf3) | (go_at_call 23; (with_reducible refine (IsStable_is (HP.out.below (by (repeat' (first | exact Below.refl _ _ | assumption | refine below_new ?_ _ | refine below_draw ?_ | refine below_tail (by assumption) ?_ | refine below_set ?_ (by first | omega | (simp <;> omega)) _)))) (HQ.out.below (by (repeat' (first | exact Below.refl _ _ | assumption | refine below_new ?_ _ | refine below_draw ?_ | refine below_tail (by assumption) ?_ | refine below_set ?_ (by first | omega | (simp <;> omega)) _)))) HOE.out HSD.out).use ?_); intro w2 hb2 hz2 hc2 hf2; clear hc2 hf2) | (go_at_call 21; (with_reducible refine (sameInts_is (HI1.out.below (by (repeat' (first | exact Below.refl _ _ | assumption | refine below_new ?_ _ | refine below_draw ?_ | refine below_tail (by assumption) ?_ | refine below_set ?_ (by first | omega | (simp <;> omega)) _)))) (HQ.out.below (by (repeat' (first | exact Below.refl _ _ | assumption | refine below_new ?_ _ | refine below_draw ?_ | refine below_tail (by assumption) ?_ | refine below_set ?_ (by first | omega | (simp <;> omega)) _)))) HEQ.out).use ?_); intro w4 hb4 hz4 hc4 hf4; clear hc4 hf4))
            go_ret
            exact ⟨rfl, by (repeat' (first | exact Below.refl _ _ | assumption | refine below_new ?_ _ | refine below_draw ?_ | refine below_tail (by assumption) ?_ | refine below_set ?_ (by first | omega | (simp <;> omega)) _))⟩
        · have h1 : (oe == 0) = false := by simpa using hoz
          have h2 : (oe != 0) = true := by simpa using hoz
          have HON := Lib.hid hoz
          clear he hlo hoe hoz
          go_enter Try.func6, Try.ntmps6
          go_wp2_with (first | (go_at_call 8; (with_reducible refine (long_is (HP.out.below (by (repeat' (first | exact Below.refl _ _ | assumption | refine below_new ?_ _ | refine below_draw ?_ | refine below_tail (by assumption) ?_ | refine below_set ?_ (by first | omega | (simp <;> omega)) _)))) HLO.out).use ?_)) | (go_at_call 22; (with_reducible refine (many_is (HQ.out.below (by (repeat' (first | exact Below.refl _ _ | assumption | refine below_new ?_ _ | refine below_draw ?_ | refine below_tail (by assumption) ?_ | refine below_set ?_ (by first | omega | (simp <;> omega)) _)))) HMA.out).use ?_)) | (go_at_call 9; (with_reducible refine (known_calls _).use ?_); intro wk hbk hzk hck hfk; clear hck hfk) | (go_at_call 16; (with_reducible refine (Trade_is (HP.out.below (by (repeat' (first | exact Below.refl _ _ | assumption | refine below_new ?_ _ | refine below_draw ?_ | refine below_tail (by assumption) ?_ | refine below_set ?_ (by first | omega | (simp <;> omega)) _)))) HO.out HE.out).calls.mono ?_); rintro e w1 ⟨v1, rfl, hi1, hb1⟩; have HI1 := Lib.hid hi1; clear hi1) | (go_at_call 23; (with_reducible refine (IsStable_err _ _ L D0 _ _ (HP.out.below (by (repeat' (first | exact Below.refl _ _ | assumption | refine below_new ?_ _ | refine below_draw ?_ | refine below_tail (by assumption) ?_ | refine below_set ?_ (by first | omega | (simp <;> omega)) _)))) (HQ.out.below (by (repeat' (first | exact Below.refl _ _ | assumption | refine below_new ?_ _ | refine below_draw ?_ | refine below_tail (by assumption) ?_ | refine below_set ?_ (by first | omega | (simp <;> omega)) _)))) HOE.out HON.out).use ?_); intro w2 hb2 hz2 hc2 hf2; clear hc2 hf2))
          go_ret
          exact ⟨rfl, by (repeat' (first | exact Below.refl _ _ | assumption | refine below_new ?_ _ | refine below_draw ?_ | refine below_tail (by assumption) ?_ | refine below_set ?_ (by first | omega | (simp <;> omega)) _))⟩
      · have h1 : (e == 0) = false := by simpa using hz
        have h2 : (e != 0) = true := by simpa using hz
        have HON : Hid (oe ≠ 0) := by show _ ≠ _; rw [← hoe]; exact oE_ne (by rw [he]; exact hz)
        have h3 : (oe != 0) = true := by have := HON.out; simpa using this
        have h4 : (oe == 0) = false := by have := HON.out; simpa using this
        clear he hlo hoe hz
        go_enter Try.func6, Try.ntmps6
        go_wp2_with (first | (go_at_call 8; (with_reducible refine (long_is (HP.out.below (by (repeat' (first | exact Below.refl _ _ | assumption | refine below_new ?_ _ | refine below_draw ?_ | refine below_tail (by assumption) ?_ | refine below_set ?_ (by first | omega | (simp <;> omega)) _)))) HLO.out).use ?_)) | (go_at_call 22; (with_reducible refine (many_is (HQ.out.below (by (repeat' (first | exact Below.refl _ _ | assumption | refine below_new ?_ _ | refine below_draw ?_ | refine below_tail (by assumption) ?_ | refine below_set ?_ (by first | omega | (simp <;> omega)) _)))) HMA.out).use ?_)) | (go_at_call 9; (with_reducible refine (known_calls _).use ?_); intro wk hbk hzk hck hfk; clear hck hfk) | (go_at_call 16; (with_reducible refine (Trade_is (HP.out.below (by (repeat' (first | exact Below.refl _ _ | assumption | refine below_new ?_ _ | refine below_draw ?_ | refine below_tail (by assumption) ?_ | refine below_set ?_ (by first | omega | (simp <;> omega)) _)))) HO.out HE.out).calls.mono ?_); rintro e w1 ⟨v1, rfl, hi1, hb1⟩; have HI1 := Lib.hid hi1; clear hi1) | (go_at_call 23; (with_reducible refine (IsStable_err _ _ L D0 _ _ (HP.out.below (by (repeat' (first | exact Below.refl _ _ | assumption | refine below_new ?_ _ | refine below_draw ?_ | refine below_tail (by assumption) ?_ | refine below_set ?_ (by first | omega | (simp <;> omega)) _)))) (HQ.out.below (by (repeat' (first | exact Below.refl _ _ | assumption | refine below_new ?_ _ | refine below_draw ?_ | refine below_tail (by assumption) ?_ | refine below_set ?_ (by first | omega | (simp <;> omega)) _)))) HOE.out HON.out).use ?_); intro w2 hb2 hz2 hc2 hf2; clear hc2 hf2))
        go_ret
        exact ⟨rfl, by (repeat' (first | exact Below.refl _ _ | assumption | refine below_new ?_ _ | refine below_draw ?_ | refine below_tail (by assumption) ?_ | refine below_set ?_ (by first | omega | (simp <;> omega)) _))⟩
    · go_enter Try.func6, Try.ntmps6
      go_wp2_with (first | (go_at_call 8; (with_reducible refine (long_is (HP.out.below (by (repeat' (first | exact Below.refl _ _ | assumption | refine below_new ?_ _ | refine below_draw ?_ | refine below_tail (by assumption) ?_ | refine below_set ?_ (by first | omega | (simp <;> omega)) _)))) HLO.out).use ?_)) | (go_at_call 22; (with_reducible refine (many_is (HQ.out.below (by (repeat' (first | exact Below.refl _ _ | assumption | refine below_new ?_ _ | refine below_draw ?_ | refine below_tail (by assumption) ?_ | refine below_set ?_ (by first | omega | (simp <;> omega)) _)))) HMA.out).use ?_)) | (go_at_call 9; (with_reducible refine (known_calls _).use ?_); intro wk hbk hzk hck hfk; clear hck hfk))
      go_ret
      exact ⟨rfl, by (repeat' (first | exact Below.refl _ _ | assumption | refine below_new ?_ _ | refine below_draw ?_ | refine below_tail (by assumption) ?_ | refine below_set ?_ (by first | omega | (simp <;> omega)) _))⟩
  · go_enter Try.func6, Try.ntmps6
    go_wp2_with (first | (go_at_call 8; (with_reducible refine (long_is (HP.out.below (by (repeat' (first | exact Below.refl _ _ | assumption | refine below_new ?_ _ | refine below_draw ?_ | refine below_tail (by assumption) ?_ | refine below_set ?_ (by first | omega | (simp <;> omega)) _)))) HLO.out).use ?_)) | (go_at_call 9; (with_reducible refine (known_calls _).use ?_); intro wk hbk hzk hck hfk; clear hck hfk))
    go_ret
    exact ⟨rfl, by (repeat' (first | exact Below.refl _ _ | assumption | refine below_new ?_ _ | refine below_draw ?_ | refine below_tail (by assumption) ?_ | refine below_set ?_ (by first | omega | (simp <;> omega)) _))⟩
end Go.Proofs.Ytpbkkekdjkmpmaa
