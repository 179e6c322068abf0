/- What splits of the document gives at neighbours. Conditions: the list lies in memory as said and is a plot. -/
import Derived.Test.YthiemglckmociaaPtRQuarter
import Derived.Test.YthiemglckmociaaPtCutA
import Derived.Test.YthiemglckmociaaPtKnown
import Derived.Test.YthiemglckmociaaPtRShift
import Derived.Test.YthiemglckmociaaPtSplitN
import Derived.Test.YthiemglckmociaaPtSplitF
import Derived.Test.YthiemglckmociaaPtRSplit
namespace Go.Proofs.Ythiemglckmociaa
open Go.RowKit

set_option maxHeartbeats 4000000 in
set_option maxRecDepth 100000 in
theorem rsplits_yes (v : Value) (l : List (Int × Int)) (i j : Nat) (w : World) (h : PairsAt w v l) (hv : Valid l) (hi : i < l.length) (hj : j < l.length) (hn : nextTo l.length i j = true) :
    Gives Try.prog 91 #[v, .int .i64 i, .int .i64 j] w (.bool (splitB l i j)) := by
  rw [splitB_no hn]
  have h3 := hv.lo
  have h10 := hv.hi
  obtain ⟨sa, cap, rfl, hlc, hcm, -⟩ := h
  obtain ⟨ni, hni⟩ : ∃ m : Nat, (i + 1) % l.length = m := ⟨_, rfl⟩
  obtain ⟨nj, hnj⟩ : ∃ m : Nat, (j + 1) % l.length = m := ⟨_, rfl⟩
  simp only [nextTo] at hn
  rw [hni, hnj] at hn
  have r1 : ((i : Int) + 1).tmod (l.length : Int) = (ni : Int) := by
    rw [Int.tmod_eq_emod_of_nonneg (by omega), ← hni, Int.natCast_emod]; rfl
  have r2 : ((j : Int) + 1).tmod (l.length : Int) = (nj : Int) := by
    rw [Int.tmod_eq_emod_of_nonneg (by omega), ← hnj, Int.natCast_emod]; rfl
  have hl0 : ¬ l = [] := fun e => by rw [e] at h3; simp at h3
  have hw1 : IntKind.i64.wrap ((i : Int) + 1) = (i : Int) + 1 := IntWalk.i64_in _ (by omega)
  have hw2 : IntKind.i64.wrap ((j : Int) + 1) = (j : Int) + 1 := IntWalk.i64_in _ (by omega)
  clear hv hni hnj
  unfold Gives
  have hc : (i = j) ∨ (i ≠ j ∧ ni = j) ∨ (i ≠ j ∧ ni ≠ j ∧ nj = i) := by
    simp only [Bool.or_eq_true, beq_iff_eq] at hn
    omega
  clear hn
  rcases hc with hc | ⟨hc, hd⟩ | ⟨hc, hd, he⟩
  · have x1 : ((i : Int) == (j : Int)) = true := by rw [hc]; simp
    clear hc
    go_enter Try.func91, Try.ntmps91
    go_wp2_with fail
    go_ret
    exact ⟨rfl, by (repeat' (first | exact Below.refl _ _ | assumption | refine below_new ?_ _ | refine below_draw ?_ | refine below_tail (by assumption) ?_ | refine below_set ?_ (by first | omega | (simp <;> omega)) _))⟩
  · have x1 : ((i : Int) == (j : Int)) = false := by simp; omega
    have x2 : ((ni : Int) == (j : Int)) = true := by rw [hd]; simp
    clear hc hd
    go_enter Try.func91, Try.ntmps91
    go_wp2_with fail
    go_ret
    exact ⟨rfl, by (repeat' (first | exact Below.refl _ _ | assumption | refine below_new ?_ _ | refine below_draw ?_ | refine below_tail (by assumption) ?_ | refine below_set ?_ (by first | omega | (simp <;> omega)) _))⟩
  · have x1 : ((i : Int) == (j : Int)) = false := by simp; omega
    have x2 : ((ni : Int) == (j : Int)) = false := by simp; omega
    have x3 : ((nj : Int) == (i : Int)) = true := by rw [he]; simp
    clear hc hd he
    go_enter Try.func91, Try.ntmps91
    go_wp2_with fail
    go_ret
    exact ⟨rfl, by (repeat' (first | exact Below.refl _ _ | assumption | refine below_new ?_ _ | refine below_draw ?_ | refine below_tail (by assumption) ?_ | refine below_set ?_ (by first | omega | (simp <;> omega)) _))⟩
end Go.Proofs.Ythiemglckmociaa
/- What numbered of the document gives. Conditions: the list lies in memory as said. -/
namespace Go.Proofs.Ythiemglckmociaa
open Go.RowKit

set_option maxHeartbeats 1000000 in
theorem rnumbered_calls (v : Value) (l : List (Int × Int)) (i j : Int) (w : World) (h : PairsAt w v l) : Gives Try.prog 90 #[v, .int .i64 i, .int .i64 j] w (.int .i64 (numF l i j)) := by
  have HP := Lib.hid h
  obtain ⟨sa, cap, rfl, hlc, hcm, -⟩ := h
  have HN : Hid (numF l i j = if validF l = 0 then (if 0 ≤ i ∧ i < l.length ∧ 0 ≤ j ∧ j < l.length then 0 else 4) else validF l) := rfl
  obtain ⟨e, he⟩ : ∃ e, validF l = e := ⟨_, rfl⟩
  have HE := Lib.hid he
  clear he
  unfold Gives
  by_cases hz : e = 0
  · subst hz
    have hv0 : 3 ≤ l.length ∧ l.length ≤ 10 := by
      have hv := valid_iff.1 HE.out
      exact ⟨hv.lo, hv.hi⟩
    have hw1 : IntKind.i64.wrap ((l.length : Int) - 1) = (l.length : Int) - 1 := IntWalk.i64_in _ (by omega)
    cases d1 : betw 0 i ((l.length : Int) - 1)
    · have HB1 := Lib.hid d1
      go_enter Try.func90, Try.ntmps90
      go_wp2_with first | (go_at_call 28; (with_reducible refine (rvalidate_is _ (HP.out.below (by (repeat' (first | exact Below.refl _ _ | assumption | refine below_new ?_ _ | refine below_draw ?_ | refine below_tail (by assumption) ?_ | refine below_set ?_ (by first | omega | (simp <;> omega)) _)))) HE.out).use ?_); intro w1 hb1 hz1 hc1 hf1; clear hc1 hf1) | (go_at_call 69; (with_reducible refine (rWithin_is _ HB1.out).use ?_); intro v1 hv1 hvz1 hvc1 hvf1; clear hvc1 hvf1)
      go_ret
      exact ⟨ret_int (by rw [HN.out, if_pos HE.out, if_neg (fun h => by have := betw_iff.2 (show 0 ≤ i ∧ i ≤ (l.length : Int) - 1 by omega); rw [HB1.out] at this; cases this)]), by (repeat' (first | exact Below.refl _ _ | assumption | refine below_new ?_ _ | refine below_draw ?_ | refine below_tail (by assumption) ?_ | refine below_set ?_ (by first | omega | (simp <;> omega)) _))⟩
    · have HB1 := Lib.hid d1
      cases d2 : betw 0 j ((l.length : Int) - 1)
      · have HB2 := Lib.hid d2
        clear d1 d2
        go_enter Try.func90, Try.ntmps90
        go_wp2_with first | (go_at_call 28; (with_reducible refine (rvalidate_is _ (HP.out.below (by (repeat' (first | exact Below.refl _ _ | assumption | refine below_new ?_ _ | refine below_draw ?_ | refine below_tail (by assumption) ?_ | refine below_set ?_ (by first | omega | (simp <;> omega)) _)))) HE.out).use ?_); intro w1 hb1 hz1 hc1 hf1; clear hc1 hf1) | (go_at_call 69; (with_reducible refine (rWithin_is _ HB1.out).use ?_); intro v1 hv1 hvz1 hvc1 hvf1; clear hvc1 hvf1) | (go_at_call 69; (with_reducible refine (rWithin_is _ HB2.out).use ?_); intro v2 hv2 hvz2 hvc2 hvf2; clear hvc2 hvf2)
        go_ret
        exact ⟨ret_int (by rw [HN.out, if_pos HE.out, if_neg (fun h => by have := betw_iff.2 (show 0 ≤ j ∧ j ≤ (l.length : Int) - 1 by omega); rw [HB2.out] at this; cases this)]), by (repeat' (first | exact Below.refl _ _ | assumption | refine below_new ?_ _ | refine below_draw ?_ | refine below_tail (by assumption) ?_ | refine below_set ?_ (by first | omega | (simp <;> omega)) _))⟩
      · have HB2 := Lib.hid d2
        clear d1 d2
        go_enter Try.func90, Try.ntmps90
        go_wp2_with first | (go_at_call 28; (with_reducible refine (rvalidate_is _ (HP.out.below (by (repeat' (first | exact Below.refl _ _ | assumption | refine below_new ?_ _ | refine below_draw ?_ | refine below_tail (by assumption) ?_ | refine below_set ?_ (by first | omega | (simp <;> omega)) _)))) HE.out).use ?_); intro w1 hb1 hz1 hc1 hf1; clear hc1 hf1) | (go_at_call 69; (with_reducible refine (rWithin_is _ HB1.out).use ?_); intro v1 hv1 hvz1 hvc1 hvf1; clear hvc1 hvf1) | (go_at_call 69; (with_reducible refine (rWithin_is _ HB2.out).use ?_); intro v2 hv2 hvz2 hvc2 hvf2; clear hvc2 hvf2)
        go_ret
        exact ⟨ret_int (by rw [HN.out, if_pos HE.out, if_pos (by have := betw_iff.1 HB1.out; have := betw_iff.1 HB2.out; omega)]), by (repeat' (first | exact Below.refl _ _ | assumption | refine below_new ?_ _ | refine below_draw ?_ | refine below_tail (by assumption) ?_ | refine below_set ?_ (by first | omega | (simp <;> omega)) _))⟩
  · have h1 : (e == 0) = false := by simpa using hz
    have h2 : (e != 0) = true := by simpa using hz
    have HZ := Lib.hid hz
    clear hz
    go_enter Try.func90, Try.ntmps90
    go_wp2_with (go_at_call 28; (with_reducible refine (rvalidate_is _ (HP.out.below (by (repeat' (first | exact Below.refl _ _ | assumption | refine below_new ?_ _ | refine below_draw ?_ | refine below_tail (by assumption) ?_ | refine below_set ?_ (by first | omega | (simp <;> omega)) _)))) HE.out).use ?_); intro w1 hb1 hz1 hc1 hf1; clear hc1 hf1)
    go_ret
    exact ⟨ret_int (by rw [HN.out, if_neg (by rw [HE.out]; exact HZ.out), HE.out]), by (repeat' (first | exact Below.refl _ _ | assumption | refine below_new ?_ _ | refine below_draw ?_ | refine below_tail (by assumption) ?_ | refine below_set ?_ (by first | omega | (simp <;> omega)) _))⟩
theorem rnumbered_is {v : Value} {l : List (Int × Int)} {i j e : Int} (w : World) (h : PairsAt w v l) (he : numF l i j = e) : Gives Try.prog 90 #[v, .int .i64 i, .int .i64 j] w (.int .i64 e) := he ▸ rnumbered_calls v l i j w h
end Go.Proofs.Ythiemglckmociaa
/- What splits, CanSplit and Split of the document give. Conditions: the list lies in memory as said. -/
namespace Go.Proofs.Ythiemglckmociaa
open Go.RowKit

theorem rsplits_is {v : Value} {l : List (Int × Int)} {i j : Nat} {t : Bool} (w : World) (h : PairsAt w v l) (hv : Valid l) (hi : i < l.length) (hj : j < l.length) (ht : splitB l i j = t) : Gives Try.prog 91 #[v, .int .i64 i, .int .i64 j] w (.bool t) := by
  subst ht
  cases hn : nextTo l.length i j
  · exact rsplits_no v l i j w h hv hi hj hn
  · exact rsplits_yes v l i j w h hv hi hj hn
set_option maxHeartbeats 1000000 in
theorem rCanSplit_calls (v : Value) (l : List (Int × Int)) (i j : Int) (w : World) (h : PairsAt w v l) : Gives Try.prog 40 #[v, .int .i64 i, .int .i64 j] w (.tuple #[.bool (canB l i j), .int .i64 (numF l i j)]) := by
  have HP := Lib.hid h
  obtain ⟨sa, cap, rfl, hlc, hcm, -⟩ := h
  have HC : Hid (canB l i j = if numF l i j = 0 then splitB l i.toNat j.toNat else false) := rfl
  obtain ⟨t, ht⟩ : ∃ e, canB l i j = e := ⟨_, rfl⟩
  rw [ht] at HC ⊢
  clear ht
  obtain ⟨e, he⟩ : ∃ e, numF l i j = e := ⟨_, rfl⟩
  have HE := Lib.hid he
  rw [he]
  clear he
  unfold Gives
  by_cases hz : e = 0
  · subst hz
    obtain ⟨hv, i1, i2, j1, j2⟩ := numF_ok HE.out
    obtain ⟨i', rfl⟩ := Int.eq_ofNat_of_zero_le i1
    obtain ⟨j', rfl⟩ := Int.eq_ofNat_of_zero_le j1
    have hi : i' < l.length := by omega
    have hj : j' < l.length := by omega
    have HT : Hid (splitB l i' j' = t) := by unfold Hid; rw [HC.out, if_pos HE.out]; rfl
    have HV := Lib.hid hv
    clear hv i1 i2 j1 j2
    go_enter Try.func40, Try.ntmps40
    go_wp2_with (first | (go_at_call 90; (with_reducible refine (rnumbered_is _ (HP.out.below (by (repeat' (first | exact Below.refl _ _ | assumption | refine below_new ?_ _ | refine below_draw ?_ | refine below_tail (by assumption) ?_ | refine below_set ?_ (by first | omega | (simp <;> omega)) _)))) HE.out).use ?_); intro w1 hb1 hz1 hc1 hf1; clear hc1 hf1) | (go_at_call 91; (with_reducible refine (rsplits_is _ (HP.out.below (by (repeat' (first | exact Below.refl _ _ | assumption | refine below_new ?_ _ | refine below_draw ?_ | refine below_tail (by assumption) ?_ | refine below_set ?_ (by first | omega | (simp <;> omega)) _)))) (valid_iff.1 HV.out) hi hj HT.out).use ?_); intro w2 hb2 hz2 hc2 hf2; clear hc2 hf2))
    go_ret2
    exact ⟨rfl, by (repeat' (first | exact Below.refl _ _ | assumption | refine below_new ?_ _ | refine below_draw ?_ | refine below_tail (by assumption) ?_ | refine below_set ?_ (by first | omega | (simp <;> omega)) _))⟩
  · have h1 : (e == 0) = false := by simpa using hz
    have h2 : (e != 0) = true := by simpa using hz
    have HT : Hid (t = false) := by unfold Hid; rw [HC.out, if_neg (by rw [HE.out]; exact hz)]
    clear hz
    go_enter Try.func40, Try.ntmps40
    go_wp2_with (go_at_call 90; (with_reducible refine (rnumbered_is _ (HP.out.below (by (repeat' (first | exact Below.refl _ _ | assumption | refine below_new ?_ _ | refine below_draw ?_ | refine below_tail (by assumption) ?_ | refine below_set ?_ (by first | omega | (simp <;> omega)) _)))) HE.out).use ?_); intro w1 hb1 hz1 hc1 hf1; clear hc1 hf1)
    go_ret2
    exact ⟨by rw [HT.out]; rfl, by (repeat' (first | exact Below.refl _ _ | assumption | refine below_new ?_ _ | refine below_draw ?_ | refine below_tail (by assumption) ?_ | refine below_set ?_ (by first | omega | (simp <;> omega)) _))⟩
set_option maxHeartbeats 1000000 in
theorem rSplit_calls (v : Value) (l : List (Int × Int)) (i j : Int) (w : World) (h : PairsAt w v l) : GivesTwo Try.prog 41 #[v, .int .i64 i, .int .i64 j] w (splL l i j) (splL l j i) (splE l i j) := by
  have HP := Lib.hid h
  obtain ⟨sa, cap, rfl, hlc, hcm, -⟩ := h
  obtain ⟨n, hn⟩ : ∃ e, numF l i j = e := ⟨_, rfl⟩
  have HE := Lib.hid hn
  clear hn
  unfold GivesTwo
  by_cases hz : n = 0
  · subst hz
    obtain ⟨hv, i1, i2, j1, j2⟩ := numF_ok HE.out
    obtain ⟨i', rfl⟩ := Int.eq_ofNat_of_zero_le i1
    obtain ⟨j', rfl⟩ := Int.eq_ofNat_of_zero_le j1
    have hi : i' < l.length := by omega
    have hj : j' < l.length := by omega
    have h10 := (valid_iff.1 hv).hi
    have HS := Lib.hid (spl_num HE.out)
    obtain ⟨t, ht⟩ : ∃ t, splitB l i' j' = t := ⟨_, rfl⟩
    have HT := Lib.hid ht
    have HV := Lib.hid hv
    have HX := Lib.hid (spl_two (valid_iff.1 hv) hi hj)
    rw [ht] at HX
    clear hv i1 i2 j1 j2 ht
    cases t
    · have HY := Lib.hid (HX.out.1 rfl)
      go_enter Try.func41, Try.ntmps41
      go_wp2_with (first | (go_at_call 90; (with_reducible refine (rnumbered_is _ (HP.out.below (by (repeat' (first | exact Below.refl _ _ | assumption | refine below_new ?_ _ | refine below_draw ?_ | refine below_tail (by assumption) ?_ | refine below_set ?_ (by first | omega | (simp <;> omega)) _)))) HE.out).use ?_); intro w1 hb1 hz1 hc1 hf1; clear hc1 hf1) | (go_at_call 91; (with_reducible refine (rsplits_is _ (HP.out.below (by (repeat' (first | exact Below.refl _ _ | assumption | refine below_new ?_ _ | refine below_draw ?_ | refine below_tail (by assumption) ?_ | refine below_set ?_ (by first | omega | (simp <;> omega)) _)))) (valid_iff.1 HV.out) hi hj HT.out).use ?_); intro w2 hb2 hz2 hc2 hf2; clear hc2 hf2))
      refine bodyPost_ret (v := .tuple #[.slice none 0 0, .slice none 0 0, .int .i64 8]) (by simp [results, Try.f41, go_sem]) rfl ?_
      exact ⟨_, _, by rw [HY.out.2.2], by rw [HY.out.1]; exact pairs0 _ _ _ (by decide), by rw [HY.out.2.1]; exact pairs0 _ _ _ (by decide), by (repeat' (first | exact Below.refl _ _ | assumption | refine below_new ?_ _ | refine below_draw ?_ | refine below_tail (by assumption) ?_ | refine below_set ?_ (by first | omega | (simp <;> omega)) _))⟩
    · have HY := Lib.hid (HX.out.2 rfl)
      go_enter Try.func41, Try.ntmps41
      go_wp2_with (first | (go_at_call 90; (with_reducible refine (rnumbered_is _ (HP.out.below (by (repeat' (first | exact Below.refl _ _ | assumption | refine below_new ?_ _ | refine below_draw ?_ | refine below_tail (by assumption) ?_ | refine below_set ?_ (by first | omega | (simp <;> omega)) _)))) HE.out).use ?_); intro w1 hb1 hz1 hc1 hf1; clear hc1 hf1) | (go_at_call 91; (with_reducible refine (rsplits_is _ (HP.out.below (by (repeat' (first | exact Below.refl _ _ | assumption | refine below_new ?_ _ | refine below_draw ?_ | refine below_tail (by assumption) ?_ | refine below_set ?_ (by first | omega | (simp <;> omega)) _)))) (valid_iff.1 HV.out) hi hj HT.out).use ?_); intro w2 hb2 hz2 hc2 hf2; clear hc2 hf2) | (go_at_call 92; first | ((with_reducible refine (from_calls _ l i' j' _ (HP.out.below (by (repeat' (first | exact Below.refl _ _ | assumption | refine below_new ?_ _ | refine below_draw ?_ | refine below_tail (by assumption) ?_ | refine below_set ?_ (by first | omega | (simp <;> omega)) _)))) hi hj (by omega)).mono ?_); rintro e w3 ⟨v3, rfl, hown3, hb3⟩; have HO3 := Lib.hid (own_pairs hown3); clear hown3) | ((with_reducible refine (from_calls _ l j' i' _ (HP.out.below (by (repeat' (first | exact Below.refl _ _ | assumption | refine below_new ?_ _ | refine below_draw ?_ | refine below_tail (by assumption) ?_ | refine below_set ?_ (by first | omega | (simp <;> omega)) _)))) hj hi (by omega)).mono ?_); rintro e w4 ⟨v4, rfl, hown4, hb4⟩; have HO4 := Lib.hid (own_pairs hown4); clear hown4)))
      refine bodyPost_ret (v := .tuple #[v3, v4, .int .i64 0]) (by simp [results, Try.f41, go_sem]) rfl ?_
      exact ⟨_, _, by rw [HY.out.2.2], by rw [HY.out.1]; exact HO3.out.below (by (repeat' (first | exact Below.refl _ _ | assumption | refine below_new ?_ _ | refine below_draw ?_ | refine below_tail (by assumption) ?_ | refine below_set ?_ (by first | omega | (simp <;> omega)) _))), by rw [HY.out.2.1]; exact HO4.out, by (repeat' (first | exact Below.refl _ _ | assumption | refine below_new ?_ _ | refine below_draw ?_ | refine below_tail (by assumption) ?_ | refine below_set ?_ (by first | omega | (simp <;> omega)) _))⟩
  · have h1 : (n == 0) = false := by simpa using hz
    have h2 : (n != 0) = true := by simpa using hz
    have HY := Lib.hid (spl_none (l := l) (i := i) (j := j) (by rw [HE.out]; exact hz))
    clear hz
    go_enter Try.func41, Try.ntmps41
    go_wp2_with (go_at_call 90; (with_reducible refine (rnumbered_is _ (HP.out.below (by (repeat' (first | exact Below.refl _ _ | assumption | refine below_new ?_ _ | refine below_draw ?_ | refine below_tail (by assumption) ?_ | refine below_set ?_ (by first | omega | (simp <;> omega)) _)))) HE.out).use ?_); intro w1 hb1 hz1 hc1 hf1; clear hc1 hf1)
    refine bodyPost_ret (v := .tuple #[.slice none 0 0, .slice none 0 0, .int .i64 n]) (by simp [results, Try.f41, go_sem]) rfl ?_
    exact ⟨_, _, by rw [HY.out.2.2, HE.out], by rw [HY.out.1]; exact pairs0 _ _ _ (by decide), by rw [HY.out.2.1]; exact pairs0 _ _ _ (by decide), by (repeat' (first | exact Below.refl _ _ | assumption | refine below_new ?_ _ | refine below_draw ?_ | refine below_tail (by assumption) ?_ | refine below_set ?_ (by first | omega | (simp <;> omega)) _))⟩
end Go.Proofs.Ythiemglckmociaa
