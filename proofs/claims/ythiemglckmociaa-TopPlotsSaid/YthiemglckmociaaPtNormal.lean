/- What normal and Normal of package plot give. Conditions: the list lies in memory as said. -/
import Derived.Test.YthiemglckmociaaPtNormF
import Derived.Test.YthiemglckmociaaPtNorm2
import Derived.Test.YthiemglckmociaaPtRev
import Derived.Deep.RegionHeld3
namespace Go.Proofs.Ythiemglckmociaa
open Go.RowKit

theorem PairsAt.drop {w : World} {a : Option Addr} {n cap : Nat} {l : List (Int × Int)} {b o : Nat} (h : PairsAt w (.slice a n cap) l) (ha : a = some ⟨b, o, none⟩) {k : Nat} (hk : k ≤ l.length) :
    PairsAt w (.slice (some ⟨b, o + k * 2, none⟩) (l.drop k).length (cap - k)) (l.drop k) := by
  obtain ⟨a', cap', hv, h1, h2, h3⟩ := h
  cases hv
  refine ⟨_, _, rfl, by rw [List.length_drop]; omega, by omega, fun i hi => ?_⟩
  rw [List.length_drop] at hi
  obtain ⟨b', o', he, hb, c1, c2⟩ := h3 (i + k) (by omega)
  rw [ha] at he
  cases he
  have e : gi (l.drop k) (0, 0) i = gi l (0, 0) (i + k) := by rw [gi_lt (by rw [List.length_drop]; omega), gi_lt (by omega), List.getElem_drop]; congr 1; omega
  rw [e]
  refine ⟨b, o + k * 2, rfl, hb, ?_, ?_⟩
  · rw [show o + k * 2 + i * 2 = o + (i + k) * 2 by omega]; exact c1
  · rw [show o + k * 2 + i * 2 + 1 = o + (i + k) * 2 + 1 by omega]; exact c2
theorem own_slice0 {w : World} {base e size n : Nat} {v : Value} {xs : List Value} (h : w.ownsRow base e size v n xs) (hn : 0 < n) : ∃ g cap, v = .slice (some ⟨g, 0, none⟩) n cap ∧ base ≤ g ∧ g < w.heap.size ∧ n ≤ cap ∧ cap ≤ 9223372036854775807 := by
  obtain ⟨_, ⟨e, h0⟩ | ⟨g', cap', cur, e, hb, hh, h1, h2, _⟩⟩ := id h
  · omega
  · subst e
    exact ⟨g', cap', rfl, hb, (h.lt g' rfl).2, h1, by unfold maxLen at h2; omega⟩
theorem minP_is {v : Value} {l : List (Int × Int)} {x : Int × Int} (w : World) (h : PairsAt w v l) (hx : gi l (0, 0) (fstK l (l.length - 1)) = x) (h0 : 0 < l.length) (hl : l.length ≤ 1000) : Gives Try.prog 115 #[v, .func (.func 82) #[] #[]] w (.agg #[.int .i64 x.1, .int .i64 x.2]) := by subst hx; exact minP_calls v l w h h0 hl
set_option maxRecDepth 100000 in
set_option maxHeartbeats 4000000 in
theorem normal_calls (v : Value) (l : List (Int × Int)) (w : World) (h : PairsAt w v l) (hv : Valid l) :
    Calls Try.prog 93 #[v] w fun e w' => ∃ v', e = .returned v' ∧ w'.ownsRow w.heap.size 32 2 v' (normF l).length (cells2 (normF l)) ∧ Below w.heap.size w w' := by
  have HP := Lib.hid h
  have HV := Lib.hid hv
  have h3 := hv.lo
  have h10 := hv.hi
  obtain ⟨sa, cap, rfl, hlc, hcm, _⟩ := h
  obtain ⟨hm1, hm2, hm3⟩ := lft_valid hv
  obtain ⟨s, hs⟩ : ∃ s, areaK l l.length = s := ⟨_, rfl⟩
  have HS := Lib.hid hs
  have HM : Hid (lftL l = if s < 0 then l.reverse else l) := by unfold Hid; rw [← hs]; rfl
  obtain ⟨m, hm⟩ : ∃ m, lftL l = m := ⟨_, rfl⟩
  have HN : Hid (normF l = rotl m (fstK m (m.length - 1))) := by unfold Hid; rw [← hm]; rfl
  rw [hm] at hm1 hm2 hm3 HM
  have HL := Lib.hid hm3
  have hml : m.length ≤ 10 := by omega
  have hml3 : 3 ≤ m.length := by omega
  have hf := fstK_le m (m.length - 1)
  obtain ⟨f, hfe⟩ : ∃ f, fstK m (m.length - 1) = f := ⟨_, rfl⟩
  rw [hfe] at hf HN
  have HF := Lib.hid hfe
  have HMV := Lib.hid hm1
  have hfi : f < m.length := by omega
  clear hs hm hm1 hm2 hm3 hfe hv
  have hj : ∃ L1 L2, m.drop f = L1 ∧ m.take f = L2 := ⟨_, _, rfl, rfl⟩
  obtain ⟨L1, L2, hL1, hL2⟩ := hj
  have e1 : L1.length = m.length - f := by rw [← hL1]; simp
  have e2 : L2.length = f := by rw [← hL2]; simp; omega
  have E1 := Lib.hid e1
  have E2 := Lib.hid e2
  have K1 := Lib.hid hL1
  have K2 := Lib.hid hL2
  clear e1 e2 hL1 hL2
  have HNE : Hid (∀ j, j < f → gi m (0, 0) j ≠ gi m (0, 0) f) := fun j hj => HMV.out.ne (by omega) hfi (by omega)
  obtain ⟨x, hx⟩ : ∃ x, gi m (0, 0) f = x := ⟨_, rfl⟩
  rw [hx] at HNE
  have HXF := Lib.hid hx
  have HX : Hid (gi m (0, 0) (fstK m (m.length - 1)) = x) := by unfold Hid; rw [HF.out]; exact hx
  clear hx
  cases hd : decide (s < 0)
  · obtain rfl : m = l := by rw [HM.out, if_neg (of_decide_eq_false hd)]
    go_enter Try.func93, Try.ntmps93
    go_wp2_with (first | (go_at_call 114; refine (cloneP_own HP.out (by omega)).mono ?_; rintro e w1 ⟨v1, rfl, hown1, hb1⟩; obtain ⟨g, cap1, rfl, hg1, hg2, hgc, hgm⟩ := own_slice0 hown1 (by omega); have HO1 := Lib.hid hown1; have hz1 := hb1.size) | (go_at_call 60; refine (sum_is _ (own_pairs HO1.out) HV.out HS.out).use ?_; intro w2 hb2 hz2 hc2 hf2; clear hc2 hf2; have HPM := Lib.hid (own_pairs (own_below HO1.out hb2)); have hbm := below_tail hb2 hb1) | (go_at_call 115; (with_reducible refine (minP_is _ HPM.out HX.out (by omega) (by omega)).use ?_); intro w4 hb4 hz4 hc4 hf4; clear hc4 hf4) | (go_at_call 108; (with_reducible refine (indexP_calls _ m x f _ (HPM.out.below (by (repeat' (first | exact Below.refl _ _ | assumption | refine below_new ?_ _ | refine below_draw ?_ | refine below_tail (by assumption) ?_ | refine below_set ?_ (by first | omega | (simp <;> omega)) _)))) (by omega) HXF.out HNE.out).use ?_); intro w5 hb5 hz5 hc5 hf5; clear hc5 hf5))
    have b0 : (0 : Int) ≤ (f : Int) := by omega
    have b1 : (f : Int) ≤ (m.length : Int) := by omega
    have b2 : (m.length : Int) ≤ (cap1 : Int) := by omega
    have b3 : (f : Int) ≤ (cap1 : Int) := by omega
    have hcf : ¬ cap1 = f := by omega
    have hbm5 : Below w2.heap.size w2 w5 := by (repeat' (first | exact Below.refl _ _ | assumption | refine below_new ?_ _ | refine below_draw ?_ | refine below_tail (by assumption) ?_ | refine below_set ?_ (by first | omega | (simp <;> omega)) _))
    have HD1 : Hid (PairsAt w5 (.slice (some ⟨g, f * 2, none⟩) L1.length (cap1 - f)) L1) := by
      have := (HPM.out.below hbm5).drop rfl (k := f) (by omega)
      rw [K1.out, Nat.zero_add] at this; exact this
    have HD2 : Hid (PairsAt w5 (.slice (some ⟨g, 0, none⟩) L2.length cap1) L2) := by
      have := (HPM.out.below hbm5).take (k := f) (by omega)
      rw [K2.out] at this; unfold Hid; rw [E2.out]; exact this
    have hz5 := (below_tail hbm5 hbm).size
    go_region_held3 (fun _ => True) (trivial) ((go_at_call 116; refine (concatP_calls w5.heap.size (some ⟨g, f * 2, none⟩) (some ⟨g, 0, none⟩) (cap1 - f) cap1 L1 L2 _ (by simp) (by rw [E1.out]; simp) (by rw [E2.out]; simp) (HD1.out.below (by (repeat' (first | exact Below.refl _ _ | assumption | refine below_new ?_ _ | refine below_draw ?_ | refine below_tail (by assumption) ?_ | refine below_set ?_ (by first | omega | (simp <;> omega)) _)))) (HD2.out.below (by (repeat' (first | exact Below.refl _ _ | assumption | refine below_new ?_ _ | refine below_draw ?_ | refine below_tail (by assumption) ?_ | refine below_set ?_ (by first | omega | (simp <;> omega)) _)))) (by have := E1.out; omega) (by have := E1.out; have := E2.out; omega)).mono ?_; rintro e w6 ⟨v6, rfl, hown6, hb6⟩))
    go_wp2_with fail
    go_ret
    refine ⟨_, rfl, own_base (by rw [HN.out, rotl, K1.out, K2.out]; exact hown6) (by simp; omega), below_tail hb6 (below_draw (below_new (below_tail hbm5 hbm) _))⟩
  · have HR : Hid (m = l.reverse) := by unfold Hid; rw [HM.out, if_pos (of_decide_eq_true hd)]
    go_enter Try.func93, Try.ntmps93
    go_wp2_with (first | (go_at_call 114; refine (cloneP_own HP.out (by omega)).mono ?_; rintro e w1 ⟨v1, rfl, hown1, hb1⟩; obtain ⟨g, cap1, rfl, hg1, hg2, hgc, hgm⟩ := own_slice0 hown1 (by omega); have HO1 := Lib.hid hown1; have hz1 := hb1.size) | (go_at_call 60; refine (sum_is _ (own_pairs HO1.out) HV.out HS.out).use ?_; intro w2 hb2 hz2 hc2 hf2; clear hc2 hf2; have HO2 := Lib.hid (own_below HO1.out hb2)) | (go_at_call 84; refine (reverseP_calls w.heap.size g cap1 l _ HO2.out (by omega) (by omega)).mono ?_; rintro e w3 ⟨rfl, hown3, hz3, hb3⟩; have HPM := Lib.hid (own_pairs (l := m) (by rw [HL.out, HR.out]; exact hown3)); have hbm := (below_tail hb2 hb1).trans hb3) | (go_at_call 115; (with_reducible refine (minP_is _ HPM.out HX.out (by omega) (by omega)).use ?_); intro w4 hb4 hz4 hc4 hf4; clear hc4 hf4) | (go_at_call 108; (with_reducible refine (indexP_calls _ m x f _ (HPM.out.below (by (repeat' (first | exact Below.refl _ _ | assumption | refine below_new ?_ _ | refine below_draw ?_ | refine below_tail (by assumption) ?_ | refine below_set ?_ (by first | omega | (simp <;> omega)) _)))) (by omega) HXF.out HNE.out).use ?_); intro w5 hb5 hz5 hc5 hf5; clear hc5 hf5))
    have b0 : (0 : Int) ≤ (f : Int) := by have := HL.out; omega
    have b1 : (f : Int) ≤ (l.length : Int) := by have := HL.out; omega
    have b2 : (l.length : Int) ≤ (cap1 : Int) := by have := HL.out; omega
    have b3 : (f : Int) ≤ (cap1 : Int) := by have := HL.out; omega
    have hcf : ¬ cap1 = f := by have := HL.out; omega
    have hbm5 : Below w3.heap.size w3 w5 := by (repeat' (first | exact Below.refl _ _ | assumption | refine below_new ?_ _ | refine below_draw ?_ | refine below_tail (by assumption) ?_ | refine below_set ?_ (by first | omega | (simp <;> omega)) _))
    have HD1 : Hid (PairsAt w5 (.slice (some ⟨g, f * 2, none⟩) L1.length (cap1 - f)) L1) := by
      have := (HPM.out.below hbm5).drop rfl (k := f) (by have := HL.out; omega)
      rw [K1.out, Nat.zero_add] at this; exact this
    have HD2 : Hid (PairsAt w5 (.slice (some ⟨g, 0, none⟩) L2.length cap1) L2) := by
      have := (HPM.out.below hbm5).take (k := f) (by have := HL.out; omega)
      rw [K2.out] at this; unfold Hid; rw [E2.out]; exact this
    have hz5 := (below_tail hbm5 hbm).size
    go_region_held3 (fun _ => True) (trivial) ((go_at_call 116; refine (concatP_calls w5.heap.size (some ⟨g, f * 2, none⟩) (some ⟨g, 0, none⟩) (cap1 - f) cap1 L1 L2 _ (by simp) (by rw [E1.out, HL.out]; simp) (by rw [E2.out]; simp) (HD1.out.below (by (repeat' (first | exact Below.refl _ _ | assumption | refine below_new ?_ _ | refine below_draw ?_ | refine below_tail (by assumption) ?_ | refine below_set ?_ (by first | omega | (simp <;> omega)) _)))) (HD2.out.below (by (repeat' (first | exact Below.refl _ _ | assumption | refine below_new ?_ _ | refine below_draw ?_ | refine below_tail (by assumption) ?_ | refine below_set ?_ (by first | omega | (simp <;> omega)) _)))) (by have := E1.out; omega) (by have := E1.out; have := E2.out; omega)).mono ?_; rintro e w6 ⟨v6, rfl, hown6, hb6⟩))
    go_wp2_with fail
    go_ret
    refine ⟨_, rfl, own_base (by rw [HN.out, rotl, K1.out, K2.out]; exact hown6) (by simp; omega), below_tail hb6 (below_draw (below_new (below_tail hbm5 hbm) _))⟩
end Go.Proofs.Ythiemglckmociaa
