/- What the document's Likes gives. Conditions: the lists lie in memory as said. -/
import Derived.Test.YtpbkkekdjkmpmaaSwLikes
namespace Go.Proofs.Ytpbkkekdjkmpmaa
open Go.RowKit

theorem inW {n : Nat} {x : Int} : (decide (0 ≤ x) && decide (x ≤ (n : Int) - 1)) = true ↔ 0 ≤ x ∧ x < n := by
  rw [Bool.and_eq_true, decide_eq_true_iff, decide_eq_true_iff]; omega
theorem inB_false {n : Nat} {o a b : Int} (h : ¬ ((0 ≤ o ∧ o < n) ∧ (0 ≤ a ∧ a < n) ∧ 0 ≤ b ∧ b < n)) : inB [o, a, b] n 0 = false := by
  cases h2 : inB [o, a, b] n 0
  · rfl
  · exact absurd (inB_3.1 h2) h
theorem vB_has {L : List (List Int)} (h : vB L = true) {i : Nat} (hi : i < L.length) {x : Int} (hx : 0 ≤ x ∧ x < L.length) : hasB (gi L [] i) x = true := by
  rw [hasB_iff]
  have := (vB_ord h hi).2 x.toNat (by omega)
  rwa [show ((x.toNat : Nat) : Int) = x by omega] at this

set_option maxHeartbeats 2000000 in
theorem rLikes_calls (v : Value) (L : List (List Int)) (o a b : Int) (w : World) (h : TableAt w v L) :
    GivesB Try.prog 11 #[v, .int .i64 o, .int .i64 a, .int .i64 b] w (likV L o a b) (likE L o a b) := by
  have HT := Lib.hid h
  obtain ⟨sa, cap, rfl, hlc, hcm, -⟩ := h
  unfold GivesB Gives
  obtain ⟨e, he⟩ : ∃ e, vE L = e := ⟨_, rfl⟩
  have HE := Lib.hid he
  by_cases h0 : e = 0
  · subst h0
    clear he
    have hv := vE_0 HE.out
    have h15 := vB_len hv
    obtain ⟨to, ho⟩ : ∃ t, (decide (0 ≤ o) && decide (o ≤ (L.length : Int) - 1)) = t := ⟨_, rfl⟩
    obtain ⟨ta, ha⟩ : ∃ t, (decide (0 ≤ a) && decide (a ≤ (L.length : Int) - 1)) = t := ⟨_, rfl⟩
    obtain ⟨tb, hb⟩ : ∃ t, (decide (0 ≤ b) && decide (b ≤ (L.length : Int) - 1)) = t := ⟨_, rfl⟩
    have HO := Lib.hid ho
    have HA := Lib.hid ha
    have HB := Lib.hid hb
    cases to
    · have H1 := Lib.hid (likE_out (o := o) (a := a) (b := b) HE.out (inB_false fun hc => by have := inW.2 hc.1; rw [this] at ho; cases ho))
      clear ho ha hb hv
      go_enter Try.func11, Try.ntmps11
      go_wp2_with (first | (go_at_call 30; (with_reducible refine (within_to HO.out).use ?_)) | (go_at_call 30; (with_reducible refine (within_to HA.out).use ?_)) | (go_at_call 30; (with_reducible refine (within_to HB.out).use ?_)) | (go_at_call 13; refine (rvalidate_is HT.out HE.out).use ?_; intro w1 hb1 hz1 hc1 hf1; clear hc1 hf1))
      refine bodyPost_ret (v := .tuple #[.bool false, .int .i64 4]) (by simp [results, Try.f11, go_sem]) rfl ?_
      exact ⟨by rw [H1.out.1, H1.out.2], by (repeat' (first | exact Below.refl _ _ | assumption | refine below_new ?_ _ | refine below_draw ?_ | refine below_tail (by assumption) ?_ | refine below_set ?_ (by first | omega | (simp <;> omega)) _))⟩
    cases ta
    · have H1 := Lib.hid (likE_out (o := o) (a := a) (b := b) HE.out (inB_false fun hc => by have := inW.2 hc.2.1; rw [this] at ha; cases ha))
      clear ho ha hb hv
      go_enter Try.func11, Try.ntmps11
      go_wp2_with (first | (go_at_call 30; (with_reducible refine (within_to HO.out).use ?_)) | (go_at_call 30; (with_reducible refine (within_to HA.out).use ?_)) | (go_at_call 30; (with_reducible refine (within_to HB.out).use ?_)) | (go_at_call 13; refine (rvalidate_is HT.out HE.out).use ?_; intro w1 hb1 hz1 hc1 hf1; clear hc1 hf1))
      refine bodyPost_ret (v := .tuple #[.bool false, .int .i64 4]) (by simp [results, Try.f11, go_sem]) rfl ?_
      exact ⟨by rw [H1.out.1, H1.out.2], by (repeat' (first | exact Below.refl _ _ | assumption | refine below_new ?_ _ | refine below_draw ?_ | refine below_tail (by assumption) ?_ | refine below_set ?_ (by first | omega | (simp <;> omega)) _))⟩
    cases tb
    · have H1 := Lib.hid (likE_out (o := o) (a := a) (b := b) HE.out (inB_false fun hc => by have := inW.2 hc.2.2; rw [this] at hb; cases hb))
      clear ho ha hb hv
      go_enter Try.func11, Try.ntmps11
      go_wp2_with (first | (go_at_call 30; (with_reducible refine (within_to HO.out).use ?_)) | (go_at_call 30; (with_reducible refine (within_to HA.out).use ?_)) | (go_at_call 30; (with_reducible refine (within_to HB.out).use ?_)) | (go_at_call 13; refine (rvalidate_is HT.out HE.out).use ?_; intro w1 hb1 hz1 hc1 hf1; clear hc1 hf1))
      refine bodyPost_ret (v := .tuple #[.bool false, .int .i64 4]) (by simp [results, Try.f11, go_sem]) rfl ?_
      exact ⟨by rw [H1.out.1, H1.out.2], by (repeat' (first | exact Below.refl _ _ | assumption | refine below_new ?_ _ | refine below_draw ?_ | refine below_tail (by assumption) ?_ | refine below_set ?_ (by first | omega | (simp <;> omega)) _))⟩
    have io := inW.1 ho
    have ia := inW.1 ha
    have ib := inW.1 hb
    have H1 := Lib.hid (likE_in (o := o) (a := a) (b := b) HE.out (inB_3.2 ⟨io, ia, ib⟩))
    obtain ⟨o', rfl⟩ := Int.eq_ofNat_of_zero_le io.1
    have ho' : o' < L.length := by omega
    have HPA := Lib.hid (vB_has hv ho' ia)
    have HPB := Lib.hid (vB_has hv ho' ib)
    clear ho ha hb hv io ia ib
    go_enter Try.func11, Try.ntmps11
    go_wp2_with (first | (go_at_call 30; (with_reducible refine (within_to HO.out).use ?_)) | (go_at_call 30; (with_reducible refine (within_to HA.out).use ?_)) | (go_at_call 30; (with_reducible refine (within_to HB.out).use ?_)) | (go_at_call 13; refine (rvalidate_is HT.out HE.out).use ?_; intro w1 hb1 hz1 hc1 hf1; clear hc1 hf1))
    obtain ⟨b0, o0, u, rfl, hB, hcell, hu⟩ := (HT.out.below hb1).row ho'
    have HU := Lib.hid hu
    obtain ⟨ua, uc, rfl, -⟩ := hu
    have hcr := fun dr os => cell_regrown hcell dr os
    clear hcell
    refine region_q mixed (by kernel_rfl) ?_
    repeat (go_big_quiet_step ((go_at_call 31; first | (with_reducible exact Same.regrown (place_calls _ _ _ _ (HU.out.below (below_regrown _ _ _)) HPA.out)) | (with_reducible exact Same.regrown (place_calls _ _ _ _ (HU.out.below (below_regrown _ _ _)) HPB.out)))))
    refine wpQuiet_nil ?_
    intro wq hbq
    go_wp2
    refine bodyPost_ret (v := .tuple #[.bool (likB L o' a b), .int .i64 0]) (by simp [results, Try.f11, go_sem, likB]) rfl ?_
    exact ⟨by rw [H1.out.1, H1.out.2]; rfl, by (repeat' (first | exact Below.refl _ _ | assumption | refine below_new ?_ _ | refine below_draw ?_ | refine below_tail (by assumption) ?_ | refine below_set ?_ (by first | omega | (simp <;> omega)) _))⟩
  · have h1 : (e == 0) = false := by simpa using h0
    have h2 : (e != 0) = true := by simpa using h0
    have H1 := Lib.hid (likE_bad (o := o) (a := a) (b := b) he h0)
    clear he h0
    go_enter Try.func11, Try.ntmps11
    go_wp2_with (go_at_call 13; refine (rvalidate_is HT.out HE.out).use ?_; intro w1 hb1 hz1 hc1 hf1; clear hc1 hf1)
    refine bodyPost_ret (v := .tuple #[.bool false, .int .i64 e]) (by simp [results, Try.f11, go_sem]) rfl ?_
    exact ⟨by rw [H1.out.1, H1.out.2], by (repeat' (first | exact Below.refl _ _ | assumption | refine below_new ?_ _ | refine below_draw ?_ | refine below_tail (by assumption) ?_ | refine below_set ?_ (by first | omega | (simp <;> omega)) _))⟩
end Go.Proofs.Ytpbkkekdjkmpmaa
