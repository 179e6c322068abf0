/- The law PlotHulls returns true. Conditions: the list lies in memory as said. -/
import Derived.Test.YthiemglckmociaaPtRHull
import Derived.Test.YthiemglckmociaaPtConv
import Derived.Test.YthiemglckmociaaPtSameG
import Derived.Test.YthiemglckmociaaPlotAreasL
import Derived.Test.YthiemglckmociaaPtSideLaw
namespace Go.Proofs.Ythiemglckmociaa
open Go.RowKit

theorem Hull_is {v : Value} {l h : List (Int × Int)} {e : Int} (w : World) (hp : PairsAt w v l) (hh : hullL l = h) (he : hullE l = e) : GivesPts Try.prog 35 #[v] w h e := by subst hh he; exact Hull_calls v l w hp
theorem rHull_is {v : Value} {l h : List (Int × Int)} {e : Int} (w : World) (hp : PairsAt w v l) (hh : hullL l = h) (he : hullE l = e) : GivesPts Try.prog 54 #[v] w h e := by subst hh he; exact rHull_calls v l w hp
theorem IsConvex_is {v : Value} {l : List (Int × Int)} {c : Bool} {e : Int} (w : World) (hp : PairsAt w v l) (hc : cvxB l = c) (he : validF l = e) : Gives Try.prog 52 #[v] w (.tuple #[.bool c, .int .i64 e]) := by subst hc he; exact IsConvex_calls v l w hp
/-- What the law asks. -/
theorem hulls_facts {l : List (Int × Int)} (h : hullE l = 0) : validF (hullL l) = 0 ∧ cvxB (hullL l) = true ∧ ∀ i, i < l.length → sideE (hullL l) (gi l (0, 0) i) = 0 ∧ 0 ≤ sideP (hullL l) (gi l (0, 0) i) := by
  have hk := hull_ok h
  have e : hullL l = hullF (sortC l) := by unfold hullL; rw [if_pos h]
  rw [← e] at hk
  have hv := valid_iff.2 hk.val
  refine ⟨hv, ?_, fun i hi => ?_⟩
  · unfold cvxB; rw [if_pos hv]; exact hull_conv hk
  · have hm : gi l (0, 0) i ∈ l := by rw [gi_lt hi]; exact List.getElem_mem hi
    have hr : rangedB l = true := by
      unfold hullE at h
      split at h
      · cases h
      · split at h
        · cases h
        · rename_i c; simpa using c
    have hir := inR_iff.1 (List.all_eq_true.1 hr _ hm)
    have hfar : farB (gi l (0, 0) i) = false := by
      rw [farB_betw]
      unfold betw
      simp only [Bool.not_eq_false', Bool.and_eq_true, decide_eq_true_eq]
      omega
    have hse : sideE (hullL l) (gi l (0, 0) i) = 0 := by unfold sideE; rw [if_pos hv, if_neg (by rw [hfar]; decide)]
    refine ⟨hse, ?_⟩
    unfold sideP
    rw [if_pos hse, where_side hk.val]
    unfold sideF
    split
    · exact Int.le_refl _
    · rename_i hoff
      have hoff : onAny (hullL l) (gi l (0, 0) i) = false := by simpa using hoff
      rcases hk.q.within hm with ⟨j, hj, hon⟩ | hw
      · have := onAny_none hoff j hj
        rw [hon] at this; cases this
      · rw [windK_wsum, hw, if_neg (by decide)]; decide
set_option maxHeartbeats 4000000 in
set_option maxRecDepth 100000 in
theorem plotHulls_calls (v : Value) (l : List (Int × Int)) (w : World) (h : PairsAt w v l) : Gives Try.prog 16 #[v] w (.bool true) := by
  have HP := Lib.hid h
  obtain ⟨sa, cap, rfl, hlc, hcm, -⟩ := h
  unfold Gives
  obtain ⟨b, hb⟩ : ∃ b, decide (40 < (l.length : Int)) = b := ⟨_, rfl⟩
  have HLO := Lib.hid hb
  have hl40 : b = false → l.length ≤ 40 := fun c => by have := of_decide_eq_false (hb.trans c); omega
  clear hb
  cases b
  · have hl40 := hl40 rfl
    obtain ⟨e, he⟩ : ∃ e, hullE l = e := ⟨_, rfl⟩
    obtain ⟨hh, hhe⟩ : ∃ hh, hullL l = hh := ⟨_, rfl⟩
    have HE := Lib.hid he
    have HH := Lib.hid hhe
    by_cases hz : e = 0
    · subst hz
      obtain ⟨f1, f2, f3⟩ := hulls_facts he
      rw [hhe] at f1 f2 f3
      have HV := Lib.hid f1
      have HC := Lib.hid f2
      have HS := Lib.hid f3
      clear f1 f2 f3 he hhe
      go_enter Try.func16, Try.ntmps16
      go_wp2_with (first
        | (go_at_call 17; refine (Long_is _ (HP.out.below (by (repeat' (first | exact Below.refl _ _ | assumption | refine below_new ?_ _ | refine below_draw ?_ | refine below_tail (by assumption) ?_ | refine below_set ?_ (by first | omega | (simp <;> omega)) _)))) HLO.out).use ?_; intro wl hbl hzl hcl hfl; clear hcl hfl)
        | (go_at_call 35; (with_reducible refine (Hull_is _ (HP.out.below (by (repeat' (first | exact Below.refl _ _ | assumption | refine below_new ?_ _ | refine below_draw ?_ | refine below_tail (by assumption) ?_ | refine below_set ?_ (by first | omega | (simp <;> omega)) _)))) HH.out HE.out).use ?_); intro a1 c1 w1 hb1 hz1 hc1 hf1 HO1; have HP1 := Lib.hid (own_pairs HO1.out); clear hc1 hf1 HO1)
        | (go_at_call 54; (with_reducible refine (rHull_is _ (HP.out.below (by (repeat' (first | exact Below.refl _ _ | assumption | refine below_new ?_ _ | refine below_draw ?_ | refine below_tail (by assumption) ?_ | refine below_set ?_ (by first | omega | (simp <;> omega)) _)))) HH.out HE.out).use ?_); intro a2 c2 w2 hb2 hz2 hc2 hf2 HO2; have HP2 := Lib.hid (own_pairs HO2.out); clear hc2 hf2 HO2)
        | (go_at_call 33; (with_reducible refine (samePtsG_is _ (HP1.out.below (by (repeat' (first | exact Below.refl _ _ | assumption | refine below_new ?_ _ | refine below_draw ?_ | refine below_tail (by assumption) ?_ | refine below_set ?_ (by first | omega | (simp <;> omega)) _)))) (HP2.out.below (by (repeat' (first | exact Below.refl _ _ | assumption | refine below_new ?_ _ | refine below_draw ?_ | refine below_tail (by assumption) ?_ | refine below_set ?_ (by first | omega | (simp <;> omega)) _)))) (decide_eq_true rfl)).use ?_); intro w3 hb3 hz3 hc3 hf3; clear hc3 hf3)
        | (go_at_call 52; (with_reducible refine (IsConvex_is _ (HP1.out.below (by (repeat' (first | exact Below.refl _ _ | assumption | refine below_new ?_ _ | refine below_draw ?_ | refine below_tail (by assumption) ?_ | refine below_set ?_ (by first | omega | (simp <;> omega)) _)))) HC.out HV.out).use ?_); intro w4 hb4 hz4 hc4 hf4; clear hc4 hf4))
      have hB1 : Below w1.heap.size w1 w4 := by (repeat' (first | exact Below.refl _ _ | assumption | refine below_new ?_ _ | refine below_draw ?_ | refine below_tail (by assumption) ?_ | refine below_set ?_ (by first | omega | (simp <;> omega)) _))
      have hB0 : Below w.heap.size w w4 := by (repeat' (first | exact Below.refl _ _ | assumption | refine below_new ?_ _ | refine below_draw ?_ | refine below_tail (by assumption) ?_ | refine below_set ?_ (by first | omega | (simp <;> omega)) _))
      have hs1 : w.heap.size ≤ w1.heap.size := by omega
      go_loopw [9] (fun i wr => ∃ k : Nat, k ≤ l.length ∧ i = .int .i64 k ∧ Below w.heap.size w wr ∧ Below w1.heap.size w1 wr) (fun i _ => l.length - (intOf i).toNat)
      case atStart => exact ⟨0, Nat.zero_le _, rfl, hB0, hB1⟩
      case round =>
        obtain ⟨k, hk, rfl, hbw, hbw1⟩ := hrel
        clear hB0 hB1 hb1 hb2 hb3 hb4 hz1 hz2 hz3 hz4 hbl hzl
        by_cases hlt : k < l.length
        · have hg : decide ((k : Int) < (l.length : Int)) = true := decide_eq_true (by omega)
          obtain ⟨bb, o, rfl, hB, g0, g1⟩ := HP.out.cellB hbw hlt
          obtain ⟨f4, f5⟩ := HS.out k hlt
          obtain ⟨s, hs⟩ : ∃ s, sideP hh (gi l (0, 0) k) = s := ⟨_, rfl⟩
          have HSP := Lib.hid hs
          have HSE := Lib.hid f4
          rw [hs] at f5
          have x1 : decide (s < 0) = false := decide_eq_false (by omega)
          clear hs f4
          go_wp2_with (go_at_call 29; (with_reducible refine (Side_is _ (HP1.out.below hbw1) HSP.out HSE.out).use ?_); intro w5 hb5 hz5 hc5 hf5; clear hc5 hf5)
          go_roundw
          case rel => exact ⟨k + 1, by omega, by go_num, by (repeat' (first | exact Below.refl _ _ | assumption | refine below_new ?_ _ | refine below_draw ?_ | refine below_tail (by assumption) ?_ | refine below_set ?_ (by first | omega | (simp <;> omega)) _)), by (repeat' (first | exact Below.refl _ _ | assumption | refine below_new ?_ _ | refine below_draw ?_ | refine below_tail (by assumption) ?_ | refine below_set ?_ (by first | omega | (simp <;> omega)) _))⟩
          case measure => simp [intOf]; omega
        · have hg : decide ((k : Int) < (l.length : Int)) = false := decide_eq_false (by omega)
          go_wp2_with (go_at_call 18; refine (known_calls _).use ?_; intro wk hbk hzk hck hfk; clear hck hfk)
          go_ret
          exact ⟨rfl, by (repeat' (first | exact Below.refl _ _ | assumption | refine below_new ?_ _ | refine below_draw ?_ | refine below_tail (by assumption) ?_ | refine below_set ?_ (by first | omega | (simp <;> omega)) _))⟩
    · have h1 : (e == 0) = false := by simpa using hz
      have h2 : (e != 0) = true := by simpa using hz
      clear hz he hhe
      go_enter Try.func16, Try.ntmps16
      go_wp2_with (first
        | (go_at_call 17; refine (Long_is _ (HP.out.below (by (repeat' (first | exact Below.refl _ _ | assumption | refine below_new ?_ _ | refine below_draw ?_ | refine below_tail (by assumption) ?_ | refine below_set ?_ (by first | omega | (simp <;> omega)) _)))) HLO.out).use ?_; intro wl hbl hzl hcl hfl; clear hcl hfl)
        | (go_at_call 18; refine (known_calls _).use ?_; intro wk hbk hzk hck hfk; clear hck hfk)
        | (go_at_call 35; (with_reducible refine (Hull_is _ (HP.out.below (by (repeat' (first | exact Below.refl _ _ | assumption | refine below_new ?_ _ | refine below_draw ?_ | refine below_tail (by assumption) ?_ | refine below_set ?_ (by first | omega | (simp <;> omega)) _)))) HH.out HE.out).use ?_); intro a1 c1 w1 hb1 hz1 hc1 hf1 HO1; have HP1 := Lib.hid (own_pairs HO1.out); clear hc1 hf1 HO1)
        | (go_at_call 54; (with_reducible refine (rHull_is _ (HP.out.below (by (repeat' (first | exact Below.refl _ _ | assumption | refine below_new ?_ _ | refine below_draw ?_ | refine below_tail (by assumption) ?_ | refine below_set ?_ (by first | omega | (simp <;> omega)) _)))) HH.out HE.out).use ?_); intro a2 c2 w2 hb2 hz2 hc2 hf2 HO2; have HP2 := Lib.hid (own_pairs HO2.out); clear hc2 hf2 HO2)
        | (go_at_call 33; (with_reducible refine (samePtsG_is _ (HP1.out.below (by (repeat' (first | exact Below.refl _ _ | assumption | refine below_new ?_ _ | refine below_draw ?_ | refine below_tail (by assumption) ?_ | refine below_set ?_ (by first | omega | (simp <;> omega)) _)))) (HP2.out.below (by (repeat' (first | exact Below.refl _ _ | assumption | refine below_new ?_ _ | refine below_draw ?_ | refine below_tail (by assumption) ?_ | refine below_set ?_ (by first | omega | (simp <;> omega)) _)))) (decide_eq_true rfl)).use ?_); intro w3 hb3 hz3 hc3 hf3; clear hc3 hf3))
      go_ret
      exact ⟨rfl, by (repeat' (first | exact Below.refl _ _ | assumption | refine below_new ?_ _ | refine below_draw ?_ | refine below_tail (by assumption) ?_ | refine below_set ?_ (by first | omega | (simp <;> omega)) _))⟩
  · go_enter Try.func16, Try.ntmps16
    go_wp2_with (first | (go_at_call 17; refine (Long_is _ (HP.out.below (by (repeat' (first | exact Below.refl _ _ | assumption | refine below_new ?_ _ | refine below_draw ?_ | refine below_tail (by assumption) ?_ | refine below_set ?_ (by first | omega | (simp <;> omega)) _)))) HLO.out).use ?_; intro wl hbl hzl hcl hfl; clear hcl hfl) | (go_at_call 18; refine (known_calls _).use ?_; intro wk hbk hzk hck hfk; clear hck hfk))
    go_ret
    exact ⟨rfl, by (repeat' (first | exact Below.refl _ _ | assumption | refine below_new ?_ _ | refine below_draw ?_ | refine below_tail (by assumption) ?_ | refine below_set ?_ (by first | omega | (simp <;> omega)) _))⟩
end Go.Proofs.Ythiemglckmociaa
