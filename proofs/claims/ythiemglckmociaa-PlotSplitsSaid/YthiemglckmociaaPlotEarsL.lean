/- The law PlotEars returns true. Conditions: the lists lie in memory as said. -/
import Derived.Test.YthiemglckmociaaPlotAreasL
import Derived.Test.YthiemglckmociaaPtCan
import Derived.Test.YthiemglckmociaaPtTriE
namespace Go.Proofs.Ythiemglckmociaa
open Go.RowKit

theorem CanSplit_is {v : Value} {l : List (Int × Int)} {i j : Int} {t : Bool} {e : Int} (w : World) (h : PairsAt w v l) (ht : canB l i j = t) (he : numF l i j = e) : Gives Try.prog 39 #[v, .int .i64 i, .int .i64 j] w (.tuple #[.bool t, .int .i64 e]) := by subst ht he; exact CanSplit_calls v l i j w h
theorem num_in {l : List (Int × Int)} {i j : Nat} (h : validF l = 0) (hi : i < l.length) (hj : j < l.length) : numF l i j = 0 ∧ canB l i j = splitB l i j := by
  have h1 : numF l i j = 0 := by unfold numF; rw [if_pos h, if_pos (by omega)]
  exact ⟨h1, by unfold canB; rw [if_pos h1]; rfl⟩
theorem triE_ok {l : List (Int × Int)} (h : triE l = 0) : validF l = 0 := by
  unfold triE at h
  split at h
  · assumption
  · rename_i h1; exact absurd h h1
set_option maxHeartbeats 2000000 in
theorem plotEars_calls (v : Value) (l : List (Int × Int)) (w : World) (h : PairsAt w v l) : Gives Try.prog 9 #[v] w (.bool true) := by
  have HP := Lib.hid h
  obtain ⟨sa, cap, rfl, hlc, hcm, -⟩ := h
  unfold Gives
  obtain ⟨b, hb⟩ : ∃ b, decide (40 < (l.length : Int)) = b := ⟨_, rfl⟩
  have HLO := Lib.hid hb
  clear hb
  cases b
  · cases d4 : decide ((l.length : Int) < 4)
    · obtain ⟨e, he⟩ : ∃ e, triE l = e := ⟨_, rfl⟩
      have HTE := Lib.hid he
      clear he
      by_cases hz : e = 0
      · subst hz
        have hv0 := triE_ok HTE.out
        have h4 : 4 ≤ l.length := by have := of_decide_eq_false d4; omega
        have HS := Lib.hid (has_split (valid_iff.1 hv0) h4)
        have HV := Lib.hid hv0
        clear hv0
        go_enter Try.func9, Try.ntmps9
        go_wp2_with (first | (go_at_call 17; refine (Long_is _ (HP.out.below (by (repeat' (first | exact Below.refl _ _ | assumption | refine below_new ?_ _ | refine below_draw ?_ | refine below_tail (by assumption) ?_ | refine below_set ?_ (by first | omega | (simp <;> omega)) _)))) HLO.out).use ?_; intro wl hbl hzl hcl hfl; clear hcl hfl hzl) | (go_at_call 38; (with_reducible refine (triErr_is _ (HP.out.below (by (repeat' (first | exact Below.refl _ _ | assumption | refine below_new ?_ _ | refine below_draw ?_ | refine below_tail (by assumption) ?_ | refine below_set ?_ (by first | omega | (simp <;> omega)) _)))) HTE.out).use ?_); intro wt hbt hzt hct hft; clear hct hft hzt))
        have hbs : Below w.heap.size w wt := by (repeat' (first | exact Below.refl _ _ | assumption | refine below_new ?_ _ | refine below_draw ?_ | refine below_tail (by assumption) ?_ | refine below_set ?_ (by first | omega | (simp <;> omega)) _))
        go_loopw [3] (fun a wr => ∃ k : Nat, k ≤ l.length ∧ a = .int .i64 k ∧ Hid (∀ q, q < k → ∀ r, r < q → splitB l q r = false) ∧ Below w.heap.size w wr) (fun a _ => l.length - (intOf a).toNat)
        case atStart => exact ⟨0, Nat.zero_le _, rfl, fun q hq => absurd hq (by omega), hbs⟩
        case round =>
          obtain ⟨k, hk, rfl, h1, hbw⟩ := hrel
          by_cases hlt : k < l.length
          · have hg : decide ((k : Int) < (l.length : Int)) = true := decide_eq_true (by omega)
            clear hbl hbt hbs
            go_wp2_with fail
            go_loopw [4] (fun a wr2 => ∃ r : Nat, r ≤ k ∧ a = .int .i64 r ∧ Hid (∀ q, q < r → splitB l k q = false) ∧ Below w.heap.size w wr2) (fun a _ => k - (intOf a).toNat)
            case atStart => exact ⟨0, Nat.zero_le _, rfl, fun q hq => absurd hq (by omega), hbw⟩
            case round =>
              obtain ⟨r, hr, rfl, h2, hbw2⟩ := hrel
              clear hbw
              by_cases hlt2 : r < k
              · have hg2 : decide ((r : Int) < (k : Int)) = true := decide_eq_true (by omega)
                obtain ⟨c0, c1⟩ := num_in HV.out hlt (show r < l.length by omega)
                have HC0 := Lib.hid c0
                cases hd : splitB l k r
                · have HC1 := Lib.hid (c1.trans hd)
                  have HD := Lib.hid hd
                  clear c0 c1 hd
                  go_wp2_with (go_at_call 39; (with_reducible refine (CanSplit_is _ (HP.out.below (by (repeat' (first | exact Below.refl _ _ | assumption | refine below_new ?_ _ | refine below_draw ?_ | refine below_tail (by assumption) ?_ | refine below_set ?_ (by first | omega | (simp <;> omega)) _)))) HC1.out HC0.out).use ?_); intro wc hbc hzc hcc hfc; clear hcc hfc hzc)
                  go_roundw
                  case rel => exact ⟨r + 1, by omega, by go_num, fun q hq => (Nat.lt_succ_iff_lt_or_eq.1 hq).elim (h2.out q) (fun e => by subst e; exact HD.out), by (repeat' (first | exact Below.refl _ _ | assumption | refine below_new ?_ _ | refine below_draw ?_ | refine below_tail (by assumption) ?_ | refine below_set ?_ (by first | omega | (simp <;> omega)) _))⟩
                  case measure => simp [intOf]; omega
                · have HC1 := Lib.hid (c1.trans hd)
                  clear c0 c1 hd
                  go_wp2_with (first | (go_at_call 39; (with_reducible refine (CanSplit_is _ (HP.out.below (by (repeat' (first | exact Below.refl _ _ | assumption | refine below_new ?_ _ | refine below_draw ?_ | refine below_tail (by assumption) ?_ | refine below_set ?_ (by first | omega | (simp <;> omega)) _)))) HC1.out HC0.out).use ?_); intro wc hbc hzc hcc hfc; clear hcc hfc hzc) | (go_at_call 18; refine (known_calls _).use ?_; intro wk hbk hzk hck hfk; clear hck hfk hzk))
                  go_ret
                  exact ⟨rfl, by (repeat' (first | exact Below.refl _ _ | assumption | refine below_new ?_ _ | refine below_draw ?_ | refine below_tail (by assumption) ?_ | refine below_set ?_ (by first | omega | (simp <;> omega)) _))⟩
              · have hg2 : decide ((r : Int) < (k : Int)) = false := decide_eq_false (by omega)
                obtain rfl : r = k := by omega
                go_wp2_with fail
                go_roundw
                case rel => exact ⟨r + 1, by omega, by go_num, fun q hq => (Nat.lt_succ_iff_lt_or_eq.1 hq).elim (h1.out q) (fun e => by subst e; exact h2.out), hbw2⟩
                case measure => simp [intOf]; omega
          · exfalso
            obtain ⟨i, j, hi, hj, hs⟩ := HS.out
            have := h1.out i (by omega) j hj
            rw [hs] at this; cases this
      · have x1 : (e == 0) = false := by simpa using hz
        have x2 : (e != 0) = true := by simpa using hz
        clear hz
        go_enter Try.func9, Try.ntmps9
        go_wp2_with (first | (go_at_call 17; refine (Long_is _ (HP.out.below (by (repeat' (first | exact Below.refl _ _ | assumption | refine below_new ?_ _ | refine below_draw ?_ | refine below_tail (by assumption) ?_ | refine below_set ?_ (by first | omega | (simp <;> omega)) _)))) HLO.out).use ?_; intro wl hbl hzl hcl hfl; clear hcl hfl hzl) | (go_at_call 18; refine (known_calls _).use ?_; intro wk hbk hzk hck hfk; clear hck hfk hzk) | (go_at_call 38; (with_reducible refine (triErr_is _ (HP.out.below (by (repeat' (first | exact Below.refl _ _ | assumption | refine below_new ?_ _ | refine below_draw ?_ | refine below_tail (by assumption) ?_ | refine below_set ?_ (by first | omega | (simp <;> omega)) _)))) HTE.out).use ?_); intro wt hbt hzt hct hft; clear hct hft hzt))
        go_ret
        exact ⟨rfl, by (repeat' (first | exact Below.refl _ _ | assumption | refine below_new ?_ _ | refine below_draw ?_ | refine below_tail (by assumption) ?_ | refine below_set ?_ (by first | omega | (simp <;> omega)) _))⟩
    · skip
      go_enter Try.func9, Try.ntmps9
      go_wp2_with (first | (go_at_call 17; refine (Long_is _ (HP.out.below (by (repeat' (first | exact Below.refl _ _ | assumption | refine below_new ?_ _ | refine below_draw ?_ | refine below_tail (by assumption) ?_ | refine below_set ?_ (by first | omega | (simp <;> omega)) _)))) HLO.out).use ?_; intro wl hbl hzl hcl hfl; clear hcl hfl hzl) | (go_at_call 18; refine (known_calls _).use ?_; intro wk hbk hzk hck hfk; clear hck hfk hzk))
      go_ret
      exact ⟨rfl, by (repeat' (first | exact Below.refl _ _ | assumption | refine below_new ?_ _ | refine below_draw ?_ | refine below_tail (by assumption) ?_ | refine below_set ?_ (by first | omega | (simp <;> omega)) _))⟩
  · skip
    go_enter Try.func9, Try.ntmps9
    go_wp2_with (first | (go_at_call 17; refine (Long_is _ (HP.out.below (by (repeat' (first | exact Below.refl _ _ | assumption | refine below_new ?_ _ | refine below_draw ?_ | refine below_tail (by assumption) ?_ | refine below_set ?_ (by first | omega | (simp <;> omega)) _)))) HLO.out).use ?_; intro wl hbl hzl hcl hfl; clear hcl hfl hzl) | (go_at_call 18; refine (known_calls _).use ?_; intro wk hbk hzk hck hfk; clear hck hfk hzk))
    go_ret
    exact ⟨rfl, by (repeat' (first | exact Below.refl _ _ | assumption | refine below_new ?_ _ | refine below_draw ?_ | refine below_tail (by assumption) ?_ | refine below_set ?_ (by first | omega | (simp <;> omega)) _))⟩
end Go.Proofs.Ythiemglckmociaa
