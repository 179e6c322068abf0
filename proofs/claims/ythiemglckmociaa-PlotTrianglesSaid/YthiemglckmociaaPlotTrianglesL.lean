/- The law PlotTriangles returns true. Conditions: the list lies in memory as said. -/
import Derived.Test.YthiemglckmociaaPtAreA
import Derived.Test.YthiemglckmociaaPtTriMW
import Derived.Test.YthiemglckmociaaPlotAreasL
namespace Go.Proofs.Ythiemglckmociaa
open Go.RowKit

theorem tri_facts {l : List (Int × Int)} (h : triE l = 0) : validF l = 0 ∧ Valid l ∧ NoLine (cor l) l.length := by
  unfold triE at h
  split at h
  · rename_i h1
    split at h
    · cases h
    · rename_i h2
      have hv := valid_iff.1 h1
      exact ⟨h1, hv, noLine_of (by have := hv.lo; omega) (by simpa using h2)⟩
  · rename_i h1; exact absurd h h1
theorem sumK_bd {T : List (List (Int × Int))} (h : ∀ u ∈ T, 0 ≤ twiceF u ∧ twiceF u ≤ 320000000) : ∀ k : Nat, k ≤ T.length → 0 ≤ sumK T k ∧ sumK T k ≤ k * 320000000
  | 0, _ => by simp [sumK]
  | k + 1, hk => by
    have ih := sumK_bd h k (by omega)
    have e : T.getD k [] = T[k] := by simp [show k < T.length by omega]
    have := h T[k] (List.getElem_mem _)
    rw [sumK_succ (by omega), e]
    omega
theorem twice_bd {u : List (Int × Int)} (h : Valid u) : 0 ≤ twiceF u ∧ twiceF u ≤ 320000000 := by
  have hb := areaK_bd h.bd u.length
  have h10 := h.hi
  unfold twiceF
  rw [if_pos (valid_iff.2 h)]
  omega
set_option maxHeartbeats 4000000 in
set_option maxRecDepth 100000 in
theorem plotTriangles_calls (v : Value) (l : List (Int × Int)) (w : World) (h : PairsAt w v l) : Gives Try.prog 14 #[v] w (.bool true) := by
  have HP := Lib.hid h
  obtain ⟨sa, cap, rfl, hlc, hcm, -⟩ := h
  unfold Gives
  obtain ⟨b, hb⟩ : ∃ b, decide (40 < (l.length : Int)) = b := ⟨_, rfl⟩
  have HLO := Lib.hid hb
  clear hb
  cases b
  · obtain ⟨e, he⟩ : ∃ e, triE l = e := ⟨_, rfl⟩
    have HE := Lib.hid he
    clear he
    by_cases hz : e = 0
    · subst hz
      obtain ⟨f1, hv, nc⟩ := tri_facts HE.out
      have HV := Lib.hid f1
      have h10 := hv.hi
      obtain ⟨m, hm⟩ : ∃ m, twiceF l = m := ⟨_, rfl⟩
      have HM := Lib.hid hm
      have HVV := Lib.hid hv
      have HNC := Lib.hid nc
      clear f1 hm hv nc
      go_enter Try.func14, Try.ntmps14
      go_wp2_with (first
        | (go_at_call 17; refine (Long_is _ (HP.out.below (by (repeat' (first | exact Below.refl _ _ | assumption | refine below_new ?_ _ | refine below_draw ?_ | refine below_tail (by assumption) ?_ | refine below_set ?_ (by first | omega | (simp <;> omega)) _)))) HLO.out).use ?_; intro wl hbl hzl hcl hfl; clear hcl hfl)
        | (go_at_call 37; refine (Triangles_calls _ l _ (HP.out.below (by (repeat' (first | exact Below.refl _ _ | assumption | refine below_new ?_ _ | refine below_draw ?_ | refine below_tail (by assumption) ?_ | refine below_set ?_ (by first | omega | (simp <;> omega)) _))))).mono ?_; rintro e1 w1 ⟨v1, T, rfl, ht1, -, hr1, hb1⟩; rw [HE.out] at ht1 ⊢; have hit := ht1 rfl; have hTn := hit.len; have HTO := Lib.hid (hit.ok HVV.out HNC.out); have htr := hr1.tris; obtain ⟨ta, tcap, rfl, htc, htm, -⟩ := id htr; have HT1 := Lib.hid htr; have hlen1 := hb1.size; clear hit hr1 htr ht1)
        | (go_at_call 38; (with_reducible refine (triErr_is _ (HP.out.below (by (repeat' (first | exact Below.refl _ _ | assumption | refine below_new ?_ _ | refine below_draw ?_ | refine below_tail (by assumption) ?_ | refine below_set ?_ (by first | omega | (simp <;> omega)) _)))) HE.out).use ?_); intro w2 hb2 hz2 hc2 hf2; clear hc2 hf2)
        | (go_at_call 51; (with_reducible refine (areTriangles_calls _ _ l T _ (HP.out.below (by (repeat' (first | exact Below.refl _ _ | assumption | refine below_new ?_ _ | refine below_draw ?_ | refine below_tail (by assumption) ?_ | refine below_set ?_ (by first | omega | (simp <;> omega)) _)))) (HT1.out.below (by (repeat' (first | exact Below.refl _ _ | assumption | refine below_new ?_ _ | refine below_draw ?_ | refine below_tail (by assumption) ?_ | refine below_set ?_ (by first | omega | (simp <;> omega)) _)))) HE.out HVV.out HNC.out HTO.out hTn).use ?_); intro w3 hb3 hz3 hc3 hf3; clear hc3 hf3))
      have hBT : Below w1.heap.size w1 w3 := by (repeat' (first | exact Below.refl _ _ | assumption | refine below_new ?_ _ | refine below_draw ?_ | refine below_tail (by assumption) ?_ | refine below_set ?_ (by first | omega | (simp <;> omega)) _))
      have hB3 : Below w.heap.size w w3 := by (repeat' (first | exact Below.refl _ _ | assumption | refine below_new ?_ _ | refine below_draw ?_ | refine below_tail (by assumption) ?_ | refine below_set ?_ (by first | omega | (simp <;> omega)) _))
      have hsz1 : w.heap.size ≤ w1.heap.size := (show Below w.heap.size w w1 by (repeat' (first | exact Below.refl _ _ | assumption | refine below_new ?_ _ | refine below_draw ?_ | refine below_tail (by assumption) ?_ | refine below_set ?_ (by first | omega | (simp <;> omega)) _))).size
      have HEACH := Lib.hid HTO.out.each
      have HSUM := Lib.hid (are_sum HVV.out HNC.out HTO.out)
      rw [HM.out] at HSUM
      have HBDT : Hid (∀ u ∈ T, 0 ≤ twiceF u ∧ twiceF u ≤ 320000000) := fun u hu => twice_bd (HEACH.out u hu).2
      clear hb1 hb2 hb3 hbl hz2 hz3 hzl
      go_loopw [5, 6] (fun s i wr => ∃ k : Nat, k ≤ T.length ∧ i = .int .i64 k ∧ s = .int .i64 (sumK T k) ∧ Below w.heap.size w wr ∧ Below w1.heap.size w1 wr) (fun _ i _ => T.length - (intOf i).toNat)
      case atStart => exact ⟨0, Nat.zero_le _, rfl, rfl, hB3, hBT⟩
      case round =>
        clear hB3 hBT
        obtain ⟨k, hk, rfl, rfl, hbw, hbw1⟩ := hrel
        have hsk := sumK_bd HBDT.out k hk
        by_cases hlt : k < T.length
        · have hg : decide ((k : Int) < (T.length : Int)) = true := decide_eq_true (by omega)
          obtain ⟨a0, c0, e0, -, -, hcs⟩ := HT1.out.below hbw1
          obtain ⟨bb, u, rfl, hbb, hcu, hpu⟩ := hcs k hlt
          cases e0
          have HPU := Lib.hid hpu
          have ek : T.getD k [] = T[k] := by simp [hlt]
          have HUV : Hid (validF (T.getD k []) = 0) := valid_iff.2 (by rw [ek]; exact (HEACH.out _ (List.getElem_mem hlt)).2)
          have hbt : 0 ≤ twiceF (T.getD k []) ∧ twiceF (T.getD k []) ≤ 320000000 := by rw [ek]; exact HBDT.out _ (List.getElem_mem hlt)
          have HSS := Lib.hid (sumK_succ hlt)
          obtain ⟨t, ht⟩ : ∃ t, twiceF (T.getD k []) = t := ⟨_, rfl⟩
          have HTW := Lib.hid ht
          rw [ht] at hbt
          obtain ⟨s, hs⟩ : ∃ s, sumK T k = s := ⟨_, rfl⟩
          have HSK := Lib.hid hs
          rw [hs] at hsk ⊢
          clear ht hs hcs hpu ek
          go_wp2_with (go_at_call 23; (with_reducible refine (Twice_is _ (HPU.out.below (by (repeat' (first | exact Below.refl _ _ | assumption | refine below_new ?_ _ | refine below_draw ?_ | refine below_tail (by assumption) ?_ | refine below_set ?_ (by first | omega | (simp <;> omega)) _)))) HTW.out HUV.out).use ?_); intro w5 hb5 hz5 hc5 hf5; clear hc5 hf5)
          go_roundw
          case rel => exact ⟨k + 1, by omega, by go_num, by rw [HSS.out, HTW.out, HSK.out], by (repeat' (first | exact Below.refl _ _ | assumption | refine below_new ?_ _ | refine below_draw ?_ | refine below_tail (by assumption) ?_ | refine below_set ?_ (by first | omega | (simp <;> omega)) _)), by (repeat' (first | exact Below.refl _ _ | assumption | refine below_new ?_ _ | refine below_draw ?_ | refine below_tail (by assumption) ?_ | refine below_set ?_ (by first | omega | (simp <;> omega)) _))⟩
          case measure => simp [intOf]; omega
        · have hg : decide ((k : Int) < (T.length : Int)) = false := decide_eq_false (by omega)
          obtain rfl : k = T.length := by omega
          rw [HSUM.out]
          go_wp2_with (first
            | (go_at_call 23; (with_reducible refine (Twice_is _ (HP.out.below (by (repeat' (first | exact Below.refl _ _ | assumption | refine below_new ?_ _ | refine below_draw ?_ | refine below_tail (by assumption) ?_ | refine below_set ?_ (by first | omega | (simp <;> omega)) _)))) HM.out HV.out).use ?_); intro w5 hb5 hz5 hc5 hf5; clear hc5 hf5)
            | (go_at_call 18; refine (known_calls _).use ?_; intro wk hbk hzk hck hfk; clear hck hfk))
          go_ret
          exact ⟨rfl, by (repeat' (first | exact Below.refl _ _ | assumption | refine below_new ?_ _ | refine below_draw ?_ | refine below_tail (by assumption) ?_ | refine below_set ?_ (by first | omega | (simp <;> omega)) _))⟩
    · have h1 : (e == 0) = false := by simpa using hz
      have h2 : (e != 0) = true := by simpa using hz
      have HZ := Lib.hid hz
      clear hz
      go_enter Try.func14, Try.ntmps14
      go_wp2_with (first
        | (go_at_call 17; refine (Long_is _ (HP.out.below (by (repeat' (first | exact Below.refl _ _ | assumption | refine below_new ?_ _ | refine below_draw ?_ | refine below_tail (by assumption) ?_ | refine below_set ?_ (by first | omega | (simp <;> omega)) _)))) HLO.out).use ?_; intro wl hbl hzl hcl hfl; clear hcl hfl)
        | (go_at_call 18; refine (known_calls _).use ?_; intro wk hbk hzk hck hfk; clear hck hfk)
        | (go_at_call 37; refine (Triangles_calls _ l _ (HP.out.below (by (repeat' (first | exact Below.refl _ _ | assumption | refine below_new ?_ _ | refine below_draw ?_ | refine below_tail (by assumption) ?_ | refine below_set ?_ (by first | omega | (simp <;> omega)) _))))).mono ?_; rintro e1 w1 ⟨v1, T, rfl, -, ht1, hr1, hb1⟩; rw [HE.out] at ht1 ⊢; obtain rfl := ht1 HZ.out; obtain ⟨ta, tcap, rfl, htc, htm, -⟩ := hr1.tris; clear hr1 ht1)
        | (go_at_call 38; (with_reducible refine (triErr_is _ (HP.out.below (by (repeat' (first | exact Below.refl _ _ | assumption | refine below_new ?_ _ | refine below_draw ?_ | refine below_tail (by assumption) ?_ | refine below_set ?_ (by first | omega | (simp <;> omega)) _)))) HE.out).use ?_); intro w2 hb2 hz2 hc2 hf2; clear hc2 hf2))
      go_ret
      exact ⟨rfl, by (repeat' (first | exact Below.refl _ _ | assumption | refine below_new ?_ _ | refine below_draw ?_ | refine below_tail (by assumption) ?_ | refine below_set ?_ (by first | omega | (simp <;> omega)) _))⟩
  · go_enter Try.func14, Try.ntmps14
    go_wp2_with (first | (go_at_call 17; refine (Long_is _ (HP.out.below (by (repeat' (first | exact Below.refl _ _ | assumption | refine below_new ?_ _ | refine below_draw ?_ | refine below_tail (by assumption) ?_ | refine below_set ?_ (by first | omega | (simp <;> omega)) _)))) HLO.out).use ?_; intro wl hbl hzl hcl hfl; clear hcl hfl) | (go_at_call 18; refine (known_calls _).use ?_; intro wk hbk hzk hck hfk; clear hck hfk))
    go_ret
    exact ⟨rfl, by (repeat' (first | exact Below.refl _ _ | assumption | refine below_new ?_ _ | refine below_draw ?_ | refine below_tail (by assumption) ?_ | refine below_set ?_ (by first | omega | (simp <;> omega)) _))⟩
end Go.Proofs.Ythiemglckmociaa
