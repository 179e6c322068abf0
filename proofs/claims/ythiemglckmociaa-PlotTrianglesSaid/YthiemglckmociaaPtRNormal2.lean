/- What reversed and normal of the document give. Conditions: the lists lie in memory as said. -/
import Derived.Test.YthiemglckmociaaPtRNormal
import Derived.Deep.RegionHeld3
namespace Go.Proofs.Ythiemglckmociaa
open Go.RowKit

/-- The last k corners, from the last one on. -/
def bwK (l : List (Int × Int)) (k : Nat) : List (Int × Int) := (List.range k).map fun i => gi l (0, 0) (l.length - 1 - i)
theorem bwK_succ (l : List (Int × Int)) (k : Nat) : bwK l (k + 1) = bwK l k ++ [gi l (0, 0) (l.length - 1 - k)] := by
  unfold bwK; rw [List.range_succ, List.map_append]; rfl
theorem bwK_length (l : List (Int × Int)) (k : Nat) : (bwK l k).length = k := by simp [bwK]
theorem bwK_all (l : List (Int × Int)) : bwK l l.length = l.reverse := by
  refine List.ext_getElem (by simp [bwK]) fun i h1 h2 => ?_
  have h3 : i < l.length := by rw [bwK_length] at h1; exact h1
  simp [bwK, gi_lt (l := l) (d := (0, 0)) (i := l.length - 1 - i) (by omega)]
set_option maxHeartbeats 2000000 in
theorem reversed_calls (v : Value) (l : List (Int × Int)) (w : World) (h : PairsAt w v l) (hl : l.length ≤ 1000) :
    Calls Try.prog 98 #[v] w fun e w' => ∃ v', e = .returned v' ∧ w'.ownsRow w.heap.size 32 2 v' l.reverse.length (cells2 l.reverse) ∧ Below w.heap.size w w' := by
  have HP := Lib.hid h
  obtain ⟨sa, cap, rfl, hlc, hcm, _⟩ := h
  obtain ⟨i0, hi0, hz0, hi1, hi2⟩ := info_parts infoPoint
  go_enter Try.func98, Try.ntmps98
  go_wp2_with fail
  go_loopw [3, 4] (fun vv i wr => ∃ k : Nat, k ≤ l.length ∧ i = .int .i64 ((l.length : Int) - 1 - k) ∧ wr.ownsRow w.heap.size 32 2 vv (bwK l k).length (cells2 (bwK l k)) ∧ Below w.heap.size w wr) (fun _ i _ => (intOf i + 1).toNat)
  case atStart => exact ⟨0, Nat.zero_le _, by simp, World.ownsRow_nil _ _ _ _, Below.refl _ _⟩
  case round =>
    obtain ⟨k, hk, rfl, hown, hbw⟩ := hrel
    by_cases hlt : k < l.length
    · obtain ⟨j, hj⟩ : ∃ j : Nat, (l.length : Int) - 1 - k = (j : Int) ∧ j = l.length - 1 - k := ⟨l.length - 1 - k, by omega, rfl⟩
      have hjn : j < l.length := by omega
      obtain ⟨b, o, rfl, hB, g0, g1⟩ := HP.out.cellB hbw hjn
      have hml := bwK_length l k
      have HK : Hid (bwK l (k + 1) = bwK l k ++ [gi l (0, 0) j]) := by unfold Hid; rw [bwK_succ, hj.2]
      rw [hj.1]
      have HJ := Lib.hid hj
      clear hj
      go_wp2_with (at_builtin; refine wpList_append_own _ rfl _ _ 22 rfl w.heap.size 32 i0 (.agg #[.int .i64 0, .int .i64 0]) 2 16 Try.underlying22 hi0 hz0 hi1 hi2 rfl (by decide) _ _ _ rfl (hown.alloc _) ⟨wr.heap.size, 0, none⟩ 1 1 (cells2 [gi l (0, 0) j]) rfl rfl (app_src2 _ _ _) (cells2_one _) (by unfold maxLen; omega) (by omega) (by have := hbw.size; simp; omega) ?_; intro v' w4 hown4 hgrow _)
      have hb4 := (hbw.alloc hbw.size _).grown hgrow (by have := hbw.size; simp; omega) (own_block_le2 hown)
      go_roundw
      case rel => exact ⟨k + 1, by omega, congrArg (Value.int .i64) (by have := HJ.out.1; omega), by rw [HK.out]; exact own_more2 hown4 rfl, hb4⟩
      case measure => simp [intOf] <;> omega
    · obtain rfl : k = l.length := by omega
      have hneg : (l.length : Int) - 1 - (l.length : Int) = -1 := by omega
      rw [hneg]
      go_wp2_with fail
      go_ret
      exact ⟨_, rfl, by rw [← bwK_all]; exact hown, hbw⟩
theorem first_is {v : Value} {l : List (Int × Int)} {f : Nat} (w : World) (h : PairsAt w v l) (h0 : 0 < l.length) (hl : l.length ≤ 1000) (hf : fstK l (l.length - 1) = f) : Gives Try.prog 101 #[v] w (.int .i64 f) := by subst hf; exact first_calls v l w h h0 hl
set_option maxRecDepth 100000 in
set_option maxHeartbeats 4000000 in
theorem rnormal_calls (v : Value) (l : List (Int × Int)) (w : World) (h : PairsAt w v l) (hv : Valid l) :
    Calls Try.prog 94 #[v] w fun e w' => ∃ v', e = .returned v' ∧ w'.ownsRow w.heap.size 32 2 v' (normF l).length (cells2 (normF l)) ∧ Below w.heap.size w w' := by
  have HP := Lib.hid h
  have HV := Lib.hid hv
  have h3 := hv.lo
  have h10 := hv.hi
  obtain ⟨sa, cap, rfl, hlc, hcm, _⟩ := h
  obtain ⟨i0, hi0, hz0, hi1, hi2⟩ := info_parts infoPoint
  obtain ⟨hm1, hm2, hm3⟩ := lft_valid hv
  obtain ⟨s, hs⟩ : ∃ s, areaK l l.length = s := ⟨_, rfl⟩
  have HS := Lib.hid hs
  have HM : Hid (lftL l = if s < 0 then l.reverse else l) := by unfold Hid; rw [← hs]; rfl
  obtain ⟨m, hm⟩ : ∃ m, lftL l = m := ⟨_, rfl⟩
  have HN : Hid (normF l = rotl m (fstK m (m.length - 1))) := by unfold Hid; rw [← hm]; rfl
  rw [hm] at hm1 hm2 hm3 HM
  have HL := Lib.hid hm3
  have hml : m.length ≤ 10 := by omega
  have hml3 : 3 ≤ m.length := by omega
  have hf := fstK_le m (m.length - 1)
  obtain ⟨f, hfe⟩ : ∃ f, fstK m (m.length - 1) = f := ⟨_, rfl⟩
  rw [hfe] at hf HN
  have HF := Lib.hid hfe
  have hfi : f < m.length := by omega
  clear hs hm hm1 hm2 hm3 hfe hv
  have hj : ∃ L1 L2, m.drop f = L1 ∧ m.take f = L2 := ⟨_, _, rfl, rfl⟩
  obtain ⟨L1, L2, hL1, hL2⟩ := hj
  have e1 : L1.length = m.length - f := by rw [← hL1]; simp
  have e2 : L2.length = f := by rw [← hL2]; simp; omega
  have E1 := Lib.hid e1
  have E2 := Lib.hid e2
  have K1 := Lib.hid hL1
  have K2 := Lib.hid hL2
  clear e1 e2 hL1 hL2
  cases hd : decide (s < 0)
  · obtain rfl : m = l := by rw [HM.out, if_neg (of_decide_eq_false hd)]
    obtain ⟨b, o, rfl, hB, _, _⟩ := HP.out.cellAt (show 0 < m.length by omega)
    go_enter Try.func94, Try.ntmps94
    go_wp2_with (first | (go_at_call 61; refine (rtwice_is _ (HP.out.below (by (repeat' (first | exact Below.refl _ _ | assumption | refine below_new ?_ _ | refine below_draw ?_ | refine below_tail (by assumption) ?_ | refine below_set ?_ (by first | omega | (simp <;> omega)) _)))) HV.out HS.out).use ?_; intro w1 hb1 hz1 hc1 hf1; clear hc1 hf1) | (go_at_call 101; (with_reducible refine (first_is _ (HP.out.below (by (repeat' (first | exact Below.refl _ _ | assumption | refine below_new ?_ _ | refine below_draw ?_ | refine below_tail (by assumption) ?_ | refine below_set ?_ (by first | omega | (simp <;> omega)) _)))) (by omega) (by omega) HF.out).use ?_); intro w2 hb2 hz2 hc2 hf2; clear hc2 hf2))
    have hbw2 : Below w.heap.size w w2 := by (repeat' (first | exact Below.refl _ _ | assumption | refine below_new ?_ _ | refine below_draw ?_ | refine below_tail (by assumption) ?_ | refine below_set ?_ (by first | omega | (simp <;> omega)) _))
    have b0 : (0 : Int) ≤ (f : Int) := by omega
    have b1 : (f : Int) ≤ (m.length : Int) := by omega
    have b2 : (m.length : Int) ≤ (cap : Int) := by omega
    have b3 : (f : Int) ≤ (cap : Int) := by omega
    have hcf : ¬ cap = f := by omega
    have HD1 : Hid (PairsAt w2 (.slice (some ⟨b, o + f * 2, none⟩) (m.length - f) (cap - f)) L1) := by
      have := (HP.out.below hbw2).drop rfl (k := f) (by omega)
      rw [K1.out, E1.out] at this; exact this
    have HD2 : Hid (PairsAt w2 (.slice (some ⟨b, o, none⟩) f cap) L2) := by
      have := (HP.out.below hbw2).take (k := f) (by omega)
      rw [K2.out] at this; exact this
    go_region_held3 (fun _ => True) (trivial)
      (first
        | (refine step_append_any (by rfl) _ _ _ (by rfl) w2.heap.size 32 i0 (.agg #[.int .i64 0, .int .i64 0]) 2 16 Try.underlying22 hi0 hz0 hi1 hi2 (by rfl) (by decide) v5 _ _ (by rfl) hown5 _ L2.length (cells2 L2) (by rfl) (pairs_src (HD2.out.below hb5)) (by unfold maxLen; have := E1.out; have := E2.out; omega) (by have := E1.out; have := E2.out; omega) hb5.size ?_; intro v6 w6 hown6 hgrow6 hat6)
        | (refine step_append_any (by rfl) _ _ _ (by rfl) w2.heap.size 32 i0 (.agg #[.int .i64 0, .int .i64 0]) 2 16 Try.underlying22 hi0 hz0 hi1 hi2 (by rfl) (by decide) (.slice (some ⟨w2.heap.size, 0, none⟩) 0 0) 0 [] (by rfl) ((World.ownsRow_made (base := w2.heap.size) (e := 32) (size := 2) w2 #[] 0 (Nat.le_refl _) (by decide) (by simp)).drew) _ L1.length (cells2 L1) (by rfl) (pairs_src (HD1.out.below (by (repeat' (first | exact Below.refl _ _ | assumption | refine below_new ?_ _ | refine below_draw ?_ | refine below_tail (by assumption) ?_ | refine below_set ?_ (by first | omega | (simp <;> omega)) _))))) (by unfold maxLen; have := E1.out; omega) (by have := E1.out; omega) (by simp <;> omega) ?_; intro v5 w5 hown5 hgrow5 hat5; have hb5 : Below w2.heap.size w2 w5 := below_grow (show Below w2.heap.size w2 _ by (repeat' (first | exact Below.refl _ _ | assumption | refine below_new ?_ _ | refine below_draw ?_ | refine below_tail (by assumption) ?_ | refine below_set ?_ (by first | omega | (simp <;> omega)) _))) hgrow5 (fun k hk => by simp [Value.ownBlock] at hk; omega)))
    go_wp2_with fail
    go_ret
    refine ⟨_, rfl, own_base (base := w2.heap.size) ?_ hbw2.size, below_tail (below_grow hb5 hgrow6 (own_block_le2 hown5)) hbw2⟩
    rw [HN.out, rotl, K1.out, K2.out, List.length_append, cells2_append]
    simpa using hown6
  · have HR : Hid (m = l.reverse) := by unfold Hid; rw [HM.out, if_pos (of_decide_eq_true hd)]
    go_enter Try.func94, Try.ntmps94
    go_wp2_with (first | (go_at_call 61; refine (rtwice_is _ (HP.out.below (by (repeat' (first | exact Below.refl _ _ | assumption | refine below_new ?_ _ | refine below_draw ?_ | refine below_tail (by assumption) ?_ | refine below_set ?_ (by first | omega | (simp <;> omega)) _)))) HV.out HS.out).use ?_; intro w1 hb1 hz1 hc1 hf1; clear hc1 hf1) | (go_at_call 98; refine (reversed_calls _ l _ (HP.out.below (by (repeat' (first | exact Below.refl _ _ | assumption | refine below_new ?_ _ | refine below_draw ?_ | refine below_tail (by assumption) ?_ | refine below_set ?_ (by first | omega | (simp <;> omega)) _)))) (by omega)).mono ?_; rintro e w2 ⟨v2, rfl, hown2, hb2⟩; rw [List.length_reverse] at hown2; obtain ⟨g, cap2, rfl, hg1, hg2, hgc, hgm⟩ := own_slice0 hown2 (by omega); have HPM := Lib.hid (own_pairs (l := m) (by rw [HL.out, HR.out]; exact hown2)); clear hown2) | (go_at_call 101; (with_reducible refine (first_is _ HPM.out (by omega) (by omega) HF.out).use ?_); intro w3 hb3 hz3 hc3 hf3; clear hc3 hf3))
    have hbw3 : Below w.heap.size w w3 := by (repeat' (first | exact Below.refl _ _ | assumption | refine below_new ?_ _ | refine below_draw ?_ | refine below_tail (by assumption) ?_ | refine below_set ?_ (by first | omega | (simp <;> omega)) _))
    have hbm3 : Below w2.heap.size w2 w3 := by (repeat' (first | exact Below.refl _ _ | assumption | refine below_new ?_ _ | refine below_draw ?_ | refine below_tail (by assumption) ?_ | refine below_set ?_ (by first | omega | (simp <;> omega)) _))
    have b0 : (0 : Int) ≤ (f : Int) := by omega
    have b1 : (f : Int) ≤ (l.length : Int) := by have := HL.out; omega
    have b2 : (l.length : Int) ≤ (cap2 : Int) := by omega
    have b3 : (f : Int) ≤ (cap2 : Int) := by have := HL.out; omega
    have hcf : ¬ cap2 = f := by have := HL.out; omega
    have HD1 : Hid (PairsAt w3 (.slice (some ⟨g, f * 2, none⟩) (l.length - f) (cap2 - f)) L1) := by
      have := (HPM.out.below hbm3).drop rfl (k := f) (by omega)
      rw [K1.out, E1.out, HL.out] at this; rw [Nat.zero_add] at this; exact this
    have HD2 : Hid (PairsAt w3 (.slice (some ⟨g, 0, none⟩) f cap2) L2) := by
      have := (HPM.out.below hbm3).take (k := f) (by omega)
      rw [K2.out] at this; exact this
    go_region_held3 (fun _ => True) (trivial)
      (first
        | (refine step_append_any (by rfl) _ _ _ (by rfl) w3.heap.size 32 i0 (.agg #[.int .i64 0, .int .i64 0]) 2 16 Try.underlying22 hi0 hz0 hi1 hi2 (by rfl) (by decide) v5 _ _ (by rfl) hown5 _ L2.length (cells2 L2) (by rfl) (pairs_src (HD2.out.below hb5)) (by unfold maxLen; have := HL.out; have := E1.out; have := E2.out; omega) (by have := HL.out; have := E1.out; have := E2.out; omega) hb5.size ?_; intro v6 w6 hown6 hgrow6 hat6)
        | (refine step_append_any (by rfl) _ _ _ (by rfl) w3.heap.size 32 i0 (.agg #[.int .i64 0, .int .i64 0]) 2 16 Try.underlying22 hi0 hz0 hi1 hi2 (by rfl) (by decide) (.slice (some ⟨w3.heap.size, 0, none⟩) 0 0) 0 [] (by rfl) ((World.ownsRow_made (base := w3.heap.size) (e := 32) (size := 2) w3 #[] 0 (Nat.le_refl _) (by decide) (by simp)).drew) _ L1.length (cells2 L1) (by rfl) (pairs_src (HD1.out.below (by (repeat' (first | exact Below.refl _ _ | assumption | refine below_new ?_ _ | refine below_draw ?_ | refine below_tail (by assumption) ?_ | refine below_set ?_ (by first | omega | (simp <;> omega)) _))))) (by unfold maxLen; have := HL.out; have := E1.out; omega) (by have := HL.out; have := E1.out; omega) (by simp <;> omega) ?_; intro v5 w5 hown5 hgrow5 hat5; have hb5 : Below w3.heap.size w3 w5 := below_grow (show Below w3.heap.size w3 _ by (repeat' (first | exact Below.refl _ _ | assumption | refine below_new ?_ _ | refine below_draw ?_ | refine below_tail (by assumption) ?_ | refine below_set ?_ (by first | omega | (simp <;> omega)) _))) hgrow5 (fun k hk => by simp [Value.ownBlock] at hk; omega)))
    go_wp2_with fail
    go_ret
    refine ⟨_, rfl, own_base (base := w3.heap.size) ?_ hbw3.size, below_tail (below_grow hb5 hgrow6 (own_block_le2 hown5)) hbw3⟩
    rw [HN.out, rotl, K1.out, K2.out, List.length_append, cells2_append]
    simpa using hown6
end Go.Proofs.Ythiemglckmociaa
