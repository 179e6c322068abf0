/- The law PlotSplits returns true. Conditions: the lists lie in memory as said. -/
import Derived.Test.YthiemglckmociaaPlotEarsL
import Derived.Test.YthiemglckmociaaPtRCanA
import Derived.Test.YthiemglckmociaaPtSameG
namespace Go.Proofs.Ythiemglckmociaa
open Go.RowKit

theorem rCanSplit_is {v : Value} {l : List (Int × Int)} {i j : Int} {t : Bool} {e : Int} (w : World) (h : PairsAt w v l) (ht : canB l i j = t) (he : numF l i j = e) : Gives Try.prog 40 #[v, .int .i64 i, .int .i64 j] w (.tuple #[.bool t, .int .i64 e]) := by subst ht he; exact rCanSplit_calls v l i j w h
theorem Split_is {v : Value} {l p q : List (Int × Int)} {i j e : Int} (w : World) (h : PairsAt w v l) (h1 : splL l i j = p) (h2 : splL l j i = q) (he : splE l i j = e) : GivesTwo Try.prog 36 #[v, .int .i64 i, .int .i64 j] w p q e := by subst h1 h2 he; exact Split_calls v l i j w h
theorem rSplit_is {v : Value} {l p q : List (Int × Int)} {i j e : Int} (w : World) (h : PairsAt w v l) (h1 : splL l i j = p) (h2 : splL l j i = q) (he : splE l i j = e) : GivesTwo Try.prog 41 #[v, .int .i64 i, .int .i64 j] w p q e := by subst h1 h2 he; exact rSplit_calls v l i j w h
/-- What the law asks of the numbers. -/
theorem splits_facts {l : List (Int × Int)} {i j : Int} (h : splE l i j = 0) : validF l = 0 ∧ validF (splL l i j) = 0 ∧ validF (splL l j i) = 0 ∧ twiceF (splL l i j) + twiceF (splL l j i) = twiceF l ∧ canB l j i = true ∧ numF l j i = 0 := by
  by_cases h0 : numF l i j = 0
  · obtain ⟨hv, i1, i2, j1, j2⟩ := numF_ok h0
    obtain ⟨i', rfl⟩ := Int.eq_ofNat_of_zero_le i1
    obtain ⟨j', rfl⟩ := Int.eq_ofNat_of_zero_le j1
    have hi : i' < l.length := by omega
    have hj : j' < l.length := by omega
    have V := valid_iff.1 hv
    obtain ⟨c1, c2⟩ := spl_two V hi hj
    cases e : splitB l i' j'
    · rw [(c1 e).2.2] at h; cases h
    · obtain ⟨a1, a2, a3⟩ := c2 e
      obtain ⟨-, -, -, b1, b2, b3⟩ := split_law V hi hj e
      rw [a1, a2]
      obtain ⟨d0, d1⟩ := num_in hv hj hi
      exact ⟨hv, valid_iff.2 b1, valid_iff.2 b2, b3, by rw [d1]; exact split_symm V hi hj e, d0⟩
  · rw [(spl_none h0).2.2] at h; exact absurd h h0
theorem twice_wrap {l : List (Int × Int)} {s : Int} (h : validF l = 0) (e : s = twiceF l) : IntKind.i64.wrap s = s := by
  have hv := valid_iff.1 h
  have h10 := hv.hi
  have hb := areaK_bd hv.bd l.length
  have h1 : twiceF l = max (areaK l l.length) (-(areaK l l.length)) := by unfold twiceF; rw [if_pos h]
  exact IntWalk.i64_in _ (by omega)
theorem GivesTwo.calls {P : Program} {f : FuncId} {args : Array Value} {w : World} {l1 l2 : List (Int × Int)} {err : Int} (h : GivesTwo P f args w l1 l2 err) : Calls P f args w fun e w' => ∃ v1 v2, e = .returned (.tuple #[v1, v2, .int .i64 err]) ∧ PairsAt w' v1 l1 ∧ PairsAt w' v2 l2 ∧ Below w.heap.size w w' := h
set_option maxHeartbeats 4000000 in
set_option maxRecDepth 100000 in
theorem plotSplits_calls (v : Value) (l : List (Int × Int)) (i j : Int) (w : World) (h : PairsAt w v l) : Gives Try.prog 10 #[v, .int .i64 i, .int .i64 j] w (.bool true) := by
  have HP := Lib.hid h
  obtain ⟨sa, cap, rfl, hlc, hcm, -⟩ := h
  unfold Gives
  obtain ⟨b, hb⟩ : ∃ b, decide (40 < (l.length : Int)) = b := ⟨_, rfl⟩
  have HLO := Lib.hid hb
  clear hb
  cases b
  · obtain ⟨p, hp⟩ : ∃ p, splL l i j = p := ⟨_, rfl⟩
    obtain ⟨q, hq⟩ : ∃ p, splL l j i = p := ⟨_, rfl⟩
    obtain ⟨s, hs⟩ : ∃ p, splE l i j = p := ⟨_, rfl⟩
    obtain ⟨c, hc⟩ : ∃ p, canB l i j = p := ⟨_, rfl⟩
    obtain ⟨n, hn⟩ : ∃ p, numF l i j = p := ⟨_, rfl⟩
    have HA := Lib.hid hp
    have HB := Lib.hid hq
    have HE := Lib.hid hs
    have HC := Lib.hid hc
    have HN := Lib.hid hn
    clear hp hq hs hc hn
    by_cases hz : s = 0
    · subst hz
      obtain ⟨f1, f2, f3, f4, f5, f6⟩ := splits_facts HE.out
      rw [HA.out] at f2 f4
      rw [HB.out] at f3 f4
      have HV0 := Lib.hid f1
      have HV1 := Lib.hid f2
      have HV2 := Lib.hid f3
      have HTW := Lib.hid f4
      have HC2 := Lib.hid f5
      have HN2 := Lib.hid f6
      have hwr : IntKind.i64.wrap (twiceF p + twiceF q) = twiceF p + twiceF q := twice_wrap HV0.out HTW.out
      clear f1 f2 f3 f4 f5 f6
      go_enter Try.func10, Try.ntmps10
      go_wp2_with (first | (go_at_call 17; refine (Long_is _ (HP.out.below (by (repeat' (first | exact Below.refl _ _ | assumption | refine below_new ?_ _ | refine below_draw ?_ | refine below_tail (by assumption) ?_ | refine below_set ?_ (by first | omega | (simp <;> omega)) _)))) HLO.out).use ?_; intro wl hbl hzl hcl hfl; clear hcl hfl hzl) | (go_at_call 18; refine (known_calls _).use ?_; intro wk hbk hzk hck hfk; clear hck hfk hzk) | (go_at_call 39; (with_reducible refine (CanSplit_is _ (HP.out.below (by (repeat' (first | exact Below.refl _ _ | assumption | refine below_new ?_ _ | refine below_draw ?_ | refine below_tail (by assumption) ?_ | refine below_set ?_ (by first | omega | (simp <;> omega)) _)))) HC.out HN.out).use ?_); intro wc1 hbc1 hzc1 hcc1 hfc1; clear hcc1 hfc1 hzc1) | (go_at_call 40; (with_reducible refine (rCanSplit_is _ (HP.out.below (by (repeat' (first | exact Below.refl _ _ | assumption | refine below_new ?_ _ | refine below_draw ?_ | refine below_tail (by assumption) ?_ | refine below_set ?_ (by first | omega | (simp <;> omega)) _)))) HC.out HN.out).use ?_); intro wc2 hbc2 hzc2 hcc2 hfc2; clear hcc2 hfc2 hzc2) | (go_at_call 36; (with_reducible refine (Split_is _ (HP.out.below (by (repeat' (first | exact Below.refl _ _ | assumption | refine below_new ?_ _ | refine below_draw ?_ | refine below_tail (by assumption) ?_ | refine below_set ?_ (by first | omega | (simp <;> omega)) _)))) HA.out HB.out HE.out).calls.mono ?_); rintro e ws1 ⟨va1, vb1, rfl, hpa1, hpb1, hbs1⟩; have HPA1 := Lib.hid hpa1; have HPB1 := Lib.hid hpb1; clear hpa1 hpb1) | (go_at_call 41; (with_reducible refine (rSplit_is _ (HP.out.below (by (repeat' (first | exact Below.refl _ _ | assumption | refine below_new ?_ _ | refine below_draw ?_ | refine below_tail (by assumption) ?_ | refine below_set ?_ (by first | omega | (simp <;> omega)) _)))) HA.out HB.out HE.out).calls.mono ?_); rintro e ws2 ⟨va2, vb2, rfl, hpa2, hpb2, hbs2⟩; have HPA2 := Lib.hid hpa2; have HPB2 := Lib.hid hpb2; clear hpa2 hpb2) | (go_at_call 33; (with_reducible refine (samePtsG_is _ (HPA1.out.below (by (repeat' (first | exact Below.refl _ _ | assumption | refine below_new ?_ _ | refine below_draw ?_ | refine below_tail (by assumption) ?_ | refine below_set ?_ (by first | omega | (simp <;> omega)) _)))) (HPA2.out.below (by (repeat' (first | exact Below.refl _ _ | assumption | refine below_new ?_ _ | refine below_draw ?_ | refine below_tail (by assumption) ?_ | refine below_set ?_ (by first | omega | (simp <;> omega)) _)))) (decide_eq_true rfl)).use ?_); intro wc3 hbc3 hzc3 hcc3 hfc3; clear hcc3 hfc3 hzc3) | (go_at_call 33; (with_reducible refine (samePtsG_is _ (HPB1.out.below (by (repeat' (first | exact Below.refl _ _ | assumption | refine below_new ?_ _ | refine below_draw ?_ | refine below_tail (by assumption) ?_ | refine below_set ?_ (by first | omega | (simp <;> omega)) _)))) (HPB2.out.below (by (repeat' (first | exact Below.refl _ _ | assumption | refine below_new ?_ _ | refine below_draw ?_ | refine below_tail (by assumption) ?_ | refine below_set ?_ (by first | omega | (simp <;> omega)) _)))) (decide_eq_true rfl)).use ?_); intro wc4 hbc4 hzc4 hcc4 hfc4; clear hcc4 hfc4 hzc4) | (go_at_call 23; (with_reducible refine (Twice_is _ (HPA1.out.below (by (repeat' (first | exact Below.refl _ _ | assumption | refine below_new ?_ _ | refine below_draw ?_ | refine below_tail (by assumption) ?_ | refine below_set ?_ (by first | omega | (simp <;> omega)) _)))) rfl HV1.out).use ?_); intro wc5 hbc5 hzc5 hcc5 hfc5; clear hcc5 hfc5 hzc5) | (go_at_call 23; (with_reducible refine (Twice_is _ (HPB1.out.below (by (repeat' (first | exact Below.refl _ _ | assumption | refine below_new ?_ _ | refine below_draw ?_ | refine below_tail (by assumption) ?_ | refine below_set ?_ (by first | omega | (simp <;> omega)) _)))) rfl HV2.out).use ?_); intro wc6 hbc6 hzc6 hcc6 hfc6; clear hcc6 hfc6 hzc6) | (go_at_call 23; (with_reducible refine (Twice_is _ (HP.out.below (by (repeat' (first | exact Below.refl _ _ | assumption | refine below_new ?_ _ | refine below_draw ?_ | refine below_tail (by assumption) ?_ | refine below_set ?_ (by first | omega | (simp <;> omega)) _)))) HTW.out.symm HV0.out).use ?_); intro wc7 hbc7 hzc7 hcc7 hfc7; clear hcc7 hfc7 hzc7) | (go_at_call 39; (with_reducible refine (CanSplit_is _ (HP.out.below (by (repeat' (first | exact Below.refl _ _ | assumption | refine below_new ?_ _ | refine below_draw ?_ | refine below_tail (by assumption) ?_ | refine below_set ?_ (by first | omega | (simp <;> omega)) _)))) HC2.out HN2.out).use ?_); intro wc8 hbc8 hzc8 hcc8 hfc8; clear hcc8 hfc8 hzc8))
      go_ret
      exact ⟨rfl, by (repeat' (first | exact Below.refl _ _ | assumption | refine below_new ?_ _ | refine below_draw ?_ | refine below_tail (by assumption) ?_ | refine below_set ?_ (by first | omega | (simp <;> omega)) _))⟩
    · have h1 : (s == 0) = false := by simpa using hz
      have h2 : (s != 0) = true := by simpa using hz
      clear hz
      go_enter Try.func10, Try.ntmps10
      go_wp2_with (first | (go_at_call 17; refine (Long_is _ (HP.out.below (by (repeat' (first | exact Below.refl _ _ | assumption | refine below_new ?_ _ | refine below_draw ?_ | refine below_tail (by assumption) ?_ | refine below_set ?_ (by first | omega | (simp <;> omega)) _)))) HLO.out).use ?_; intro wl hbl hzl hcl hfl; clear hcl hfl hzl) | (go_at_call 18; refine (known_calls _).use ?_; intro wk hbk hzk hck hfk; clear hck hfk hzk) | (go_at_call 39; (with_reducible refine (CanSplit_is _ (HP.out.below (by (repeat' (first | exact Below.refl _ _ | assumption | refine below_new ?_ _ | refine below_draw ?_ | refine below_tail (by assumption) ?_ | refine below_set ?_ (by first | omega | (simp <;> omega)) _)))) HC.out HN.out).use ?_); intro wc1 hbc1 hzc1 hcc1 hfc1; clear hcc1 hfc1 hzc1) | (go_at_call 40; (with_reducible refine (rCanSplit_is _ (HP.out.below (by (repeat' (first | exact Below.refl _ _ | assumption | refine below_new ?_ _ | refine below_draw ?_ | refine below_tail (by assumption) ?_ | refine below_set ?_ (by first | omega | (simp <;> omega)) _)))) HC.out HN.out).use ?_); intro wc2 hbc2 hzc2 hcc2 hfc2; clear hcc2 hfc2 hzc2) | (go_at_call 36; (with_reducible refine (Split_is _ (HP.out.below (by (repeat' (first | exact Below.refl _ _ | assumption | refine below_new ?_ _ | refine below_draw ?_ | refine below_tail (by assumption) ?_ | refine below_set ?_ (by first | omega | (simp <;> omega)) _)))) HA.out HB.out HE.out).calls.mono ?_); rintro e ws1 ⟨va1, vb1, rfl, hpa1, hpb1, hbs1⟩; have HPA1 := Lib.hid hpa1; have HPB1 := Lib.hid hpb1; clear hpa1 hpb1) | (go_at_call 41; (with_reducible refine (rSplit_is _ (HP.out.below (by (repeat' (first | exact Below.refl _ _ | assumption | refine below_new ?_ _ | refine below_draw ?_ | refine below_tail (by assumption) ?_ | refine below_set ?_ (by first | omega | (simp <;> omega)) _)))) HA.out HB.out HE.out).calls.mono ?_); rintro e ws2 ⟨va2, vb2, rfl, hpa2, hpb2, hbs2⟩; have HPA2 := Lib.hid hpa2; have HPB2 := Lib.hid hpb2; clear hpa2 hpb2) | (go_at_call 33; (with_reducible refine (samePtsG_is _ (HPA1.out.below (by (repeat' (first | exact Below.refl _ _ | assumption | refine below_new ?_ _ | refine below_draw ?_ | refine below_tail (by assumption) ?_ | refine below_set ?_ (by first | omega | (simp <;> omega)) _)))) (HPA2.out.below (by (repeat' (first | exact Below.refl _ _ | assumption | refine below_new ?_ _ | refine below_draw ?_ | refine below_tail (by assumption) ?_ | refine below_set ?_ (by first | omega | (simp <;> omega)) _)))) (decide_eq_true rfl)).use ?_); intro wc3 hbc3 hzc3 hcc3 hfc3; clear hcc3 hfc3 hzc3) | (go_at_call 33; (with_reducible refine (samePtsG_is _ (HPB1.out.below (by (repeat' (first | exact Below.refl _ _ | assumption | refine below_new ?_ _ | refine below_draw ?_ | refine below_tail (by assumption) ?_ | refine below_set ?_ (by first | omega | (simp <;> omega)) _)))) (HPB2.out.below (by (repeat' (first | exact Below.refl _ _ | assumption | refine below_new ?_ _ | refine below_draw ?_ | refine below_tail (by assumption) ?_ | refine below_set ?_ (by first | omega | (simp <;> omega)) _)))) (decide_eq_true rfl)).use ?_); intro wc4 hbc4 hzc4 hcc4 hfc4; clear hcc4 hfc4 hzc4))
      go_ret
      exact ⟨rfl, by (repeat' (first | exact Below.refl _ _ | assumption | refine below_new ?_ _ | refine below_draw ?_ | refine below_tail (by assumption) ?_ | refine below_set ?_ (by first | omega | (simp <;> omega)) _))⟩
  · go_enter Try.func10, Try.ntmps10
    go_wp2_with (first | (go_at_call 17; refine (Long_is _ (HP.out.below (by (repeat' (first | exact Below.refl _ _ | assumption | refine below_new ?_ _ | refine below_draw ?_ | refine below_tail (by assumption) ?_ | refine below_set ?_ (by first | omega | (simp <;> omega)) _)))) HLO.out).use ?_; intro wl hbl hzl hcl hfl; clear hcl hfl hzl) | (go_at_call 18; refine (known_calls _).use ?_; intro wk hbk hzk hck hfk; clear hck hfk hzk))
    go_ret
    exact ⟨rfl, by (repeat' (first | exact Below.refl _ _ | assumption | refine below_new ?_ _ | refine below_draw ?_ | refine below_tail (by assumption) ?_ | refine below_set ?_ (by first | omega | (simp <;> omega)) _))⟩
end Go.Proofs.Ythiemglckmociaa
