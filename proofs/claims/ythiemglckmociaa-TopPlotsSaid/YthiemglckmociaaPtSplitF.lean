/- What Split of package plot gives. Conditions: the list lies in memory as said. -/
import Derived.Test.YthiemglckmociaaPtCan
import Derived.Test.YthiemglckmociaaPtBtw
namespace Go.Proofs.Ythiemglckmociaa
open Go.RowKit

/-- The call gives two lists in memory and an error. -/
def GivesTwo (P : Program) (f : FuncId) (args : Array Value) (w : World) (l1 l2 : List (Int × Int)) (err : Int) : Prop :=
  Calls P f args w fun e w' => ∃ v1 v2, e = .returned (.tuple #[v1, v2, .int .i64 err]) ∧ PairsAt w' v1 l1 ∧ PairsAt w' v2 l2 ∧ Below w.heap.size w w'
def splE (l : List (Int × Int)) (i j : Int) : Int := if numF l i j = 0 then (if splitB l i.toNat j.toNat = true then 0 else 8) else numF l i j
def splL (l : List (Int × Int)) (i j : Int) : List (Int × Int) := if numF l i j = 0 ∧ splitB l i.toNat j.toNat = true then btw l i.toNat (farM l.length i.toNat j.toNat) else []
theorem spl_num {l : List (Int × Int)} {i j : Int} (h : numF l i j = 0) : numF l j i = 0 := by
  obtain ⟨h1, h2, h3, h4, h5⟩ := numF_ok h
  unfold numF; rw [if_pos h1, if_pos ⟨h4, h5, h2, h3⟩]
theorem spl_two {l : List (Int × Int)} (hv : Valid l) {i j : Nat} (hi : i < l.length) (hj : j < l.length) :
    (splitB l i j = false → splL l i j = [] ∧ splL l j i = [] ∧ splE l i j = 8) ∧ (splitB l i j = true → splL l i j = btw l i (farM l.length i j) ∧ splL l j i = btw l j (farM l.length j i) ∧ splE l i j = 0) := by
  have n1 : numF l i j = 0 := by unfold numF; rw [if_pos (valid_iff.2 hv), if_pos (by omega)]
  have n2 := spl_num n1
  have ti : (i : Int).toNat = i := rfl
  have tj : (j : Int).toNat = j := rfl
  refine ⟨fun h => ?_, fun h => ?_⟩
  · have h' : splitB l j i = false := by
      cases e : splitB l j i
      · rfl
      · have := split_symm hv hj hi e; rw [h] at this; cases this
    unfold splL splE
    rw [if_neg (by rw [ti, tj, h]; simp), if_neg (by rw [ti, tj, h']; simp), if_pos n1, if_neg (by rw [ti, tj, h]; simp)]
    exact ⟨rfl, rfl, rfl⟩
  · have h' := split_symm hv hi hj h
    unfold splL splE
    rw [if_pos (by rw [ti, tj]; exact ⟨n1, h⟩), if_pos (by rw [ti, tj]; exact ⟨n2, h'⟩), if_pos n1, if_pos (by rw [ti, tj]; exact h)]
    exact ⟨rfl, rfl, rfl⟩
theorem spl_none {l : List (Int × Int)} {i j : Int} (h : ¬ numF l i j = 0) : splL l i j = [] ∧ splL l j i = [] ∧ splE l i j = numF l i j := by
  have h' : ¬ numF l j i = 0 := fun e => h (spl_num e)
  unfold splL splE
  rw [if_neg (fun e => h e.1), if_neg (fun e => h' e.1), if_neg h]
  exact ⟨rfl, rfl, rfl⟩
set_option maxHeartbeats 1000000 in
theorem Split_calls (v : Value) (l : List (Int × Int)) (i j : Int) (w : World) (h : PairsAt w v l) : GivesTwo Try.prog 36 #[v, .int .i64 i, .int .i64 j] w (splL l i j) (splL l j i) (splE l i j) := by
  have HP := Lib.hid h
  obtain ⟨sa, cap, rfl, hlc, hcm, -⟩ := h
  obtain ⟨n, hn⟩ : ∃ e, numF l i j = e := ⟨_, rfl⟩
  have HE := Lib.hid hn
  clear hn
  unfold GivesTwo
  by_cases hz : n = 0
  · subst hz
    obtain ⟨hv, i1, i2, j1, j2⟩ := numF_ok HE.out
    obtain ⟨i', rfl⟩ := Int.eq_ofNat_of_zero_le i1
    obtain ⟨j', rfl⟩ := Int.eq_ofNat_of_zero_le j1
    have hi : i' < l.length := by omega
    have hj : j' < l.length := by omega
    have h10 := (valid_iff.1 hv).hi
    have HS := Lib.hid (spl_num HE.out)
    obtain ⟨t, ht⟩ : ∃ t, splitB l i' j' = t := ⟨_, rfl⟩
    have HT := Lib.hid ht
    have HV := Lib.hid hv
    have HX := Lib.hid (spl_two (valid_iff.1 hv) hi hj)
    rw [ht] at HX
    clear hv i1 i2 j1 j2 ht
    cases t
    · have HY := Lib.hid (HX.out.1 rfl)
      go_enter Try.func36, Try.ntmps36
      go_wp2_with (first | (go_at_call 85; (with_reducible refine (numbered_is _ (HP.out.below (by (repeat' (first | exact Below.refl _ _ | assumption | refine below_new ?_ _ | refine below_draw ?_ | refine below_tail (by assumption) ?_ | refine below_set ?_ (by first | omega | (simp <;> omega)) _)))) HE.out).use ?_); intro w1 hb1 hz1 hc1 hf1; clear hc1 hf1) | (go_at_call 86; (with_reducible refine (splits_is _ (HP.out.below (by (repeat' (first | exact Below.refl _ _ | assumption | refine below_new ?_ _ | refine below_draw ?_ | refine below_tail (by assumption) ?_ | refine below_set ?_ (by first | omega | (simp <;> omega)) _)))) (valid_iff.1 HV.out) hi hj HT.out).use ?_); intro w2 hb2 hz2 hc2 hf2; clear hc2 hf2))
      refine bodyPost_ret (v := .tuple #[.slice none 0 0, .slice none 0 0, .int .i64 8]) (by simp [results, Try.f36, go_sem]) rfl ?_
      exact ⟨_, _, by rw [HY.out.2.2], by rw [HY.out.1]; exact pairs0 _ _ _ (by decide), by rw [HY.out.2.1]; exact pairs0 _ _ _ (by decide), by (repeat' (first | exact Below.refl _ _ | assumption | refine below_new ?_ _ | refine below_draw ?_ | refine below_tail (by assumption) ?_ | refine below_set ?_ (by first | omega | (simp <;> omega)) _))⟩
    · have HY := Lib.hid (HX.out.2 rfl)
      go_enter Try.func36, Try.ntmps36
      go_wp2_with (first | (go_at_call 85; (with_reducible refine (numbered_is _ (HP.out.below (by (repeat' (first | exact Below.refl _ _ | assumption | refine below_new ?_ _ | refine below_draw ?_ | refine below_tail (by assumption) ?_ | refine below_set ?_ (by first | omega | (simp <;> omega)) _)))) HE.out).use ?_); intro w1 hb1 hz1 hc1 hf1; clear hc1 hf1) | (go_at_call 86; (with_reducible refine (splits_is _ (HP.out.below (by (repeat' (first | exact Below.refl _ _ | assumption | refine below_new ?_ _ | refine below_draw ?_ | refine below_tail (by assumption) ?_ | refine below_set ?_ (by first | omega | (simp <;> omega)) _)))) (valid_iff.1 HV.out) hi hj HT.out).use ?_); intro w2 hb2 hz2 hc2 hf2; clear hc2 hf2) | (go_at_call 87; first | ((with_reducible refine (between_calls _ l i' j' _ (HP.out.below (by (repeat' (first | exact Below.refl _ _ | assumption | refine below_new ?_ _ | refine below_draw ?_ | refine below_tail (by assumption) ?_ | refine below_set ?_ (by first | omega | (simp <;> omega)) _)))) hi hj (by omega)).mono ?_); rintro e w3 ⟨v3, rfl, hown3, hb3⟩; have HO3 := Lib.hid (own_pairs hown3); clear hown3) | ((with_reducible refine (between_calls _ l j' i' _ (HP.out.below (by (repeat' (first | exact Below.refl _ _ | assumption | refine below_new ?_ _ | refine below_draw ?_ | refine below_tail (by assumption) ?_ | refine below_set ?_ (by first | omega | (simp <;> omega)) _)))) hj hi (by omega)).mono ?_); rintro e w4 ⟨v4, rfl, hown4, hb4⟩; have HO4 := Lib.hid (own_pairs hown4); clear hown4)))
      refine bodyPost_ret (v := .tuple #[v3, v4, .int .i64 0]) (by simp [results, Try.f36, go_sem]) rfl ?_
      exact ⟨_, _, by rw [HY.out.2.2], by rw [HY.out.1]; exact HO3.out.below (by (repeat' (first | exact Below.refl _ _ | assumption | refine below_new ?_ _ | refine below_draw ?_ | refine below_tail (by assumption) ?_ | refine below_set ?_ (by first | omega | (simp <;> omega)) _))), by rw [HY.out.2.1]; exact HO4.out, by (repeat' (first | exact Below.refl _ _ | assumption | refine below_new ?_ _ | refine below_draw ?_ | refine below_tail (by assumption) ?_ | refine below_set ?_ (by first | omega | (simp <;> omega)) _))⟩
  · have h1 : (n == 0) = false := by simpa using hz
    have h2 : (n != 0) = true := by simpa using hz
    have HY := Lib.hid (spl_none (l := l) (i := i) (j := j) (by rw [HE.out]; exact hz))
    clear hz
    go_enter Try.func36, Try.ntmps36
    go_wp2_with (go_at_call 85; (with_reducible refine (numbered_is _ (HP.out.below (by (repeat' (first | exact Below.refl _ _ | assumption | refine below_new ?_ _ | refine below_draw ?_ | refine below_tail (by assumption) ?_ | refine below_set ?_ (by first | omega | (simp <;> omega)) _)))) HE.out).use ?_); intro w1 hb1 hz1 hc1 hf1; clear hc1 hf1)
    refine bodyPost_ret (v := .tuple #[.slice none 0 0, .slice none 0 0, .int .i64 n]) (by simp [results, Try.f36, go_sem]) rfl ?_
    exact ⟨_, _, by rw [HY.out.2.2, HE.out], by rw [HY.out.1]; exact pairs0 _ _ _ (by decide), by rw [HY.out.2.1]; exact pairs0 _ _ _ (by decide), by (repeat' (first | exact Below.refl _ _ | assumption | refine below_new ?_ _ | refine below_draw ?_ | refine below_tail (by assumption) ?_ | refine below_set ?_ (by first | omega | (simp <;> omega)) _))⟩
end Go.Proofs.Ythiemglckmociaa
