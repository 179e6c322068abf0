/- Plain geometry of plots, ninth part: some line splits each plot of four corners or more. No program in sight. No conditions. -/
import Derived.Test.YthiemglckmociaaGeo8
namespace Go.Proofs.Ythiemglckmociaa
theorem lam_shift {p : Nat → Int × Int} {n : Nat} (h : Simple p n) (s : Nat) : lam (fun k => p (k + s)) n 0 = lam p n 0 := by
  have hw := (h.scale (show (0 : Int) < 2 by decide)).wsum_shift s (near 2 (p (s + 1)) (p s))
  have : lam (fun k => p (k + s)) n 0 = lam p n s := by
    show wsum (fun i => sc 2 (p (i + s))) n (near 2 (p (0 + 1 + s)) (p (0 + s))) + up (p (0 + s)) (p (0 + 1 + s)) = wsum (fun i => sc 2 (p i)) n (near 2 (p (s + 1)) (p s)) + up (p s) (p (s + 1))
    rw [show 0 + 1 + s = s + 1 by omega, Nat.zero_add, ← hw]
  rw [this, h.lam_all]
/-- Corner 0 is the lowest, the rightmost of several. -/
def Low (r : Nat → Int × Int) (n : Nat) : Prop := ∀ i, i < n → i ≠ 0 → (r 0).2 < (r i).2 ∨ ((r 0).2 = (r i).2 ∧ (r i).1 < (r 0).1)
theorem Low.at {r : Nat → Int × Int} {n : Nat} (h : Simple r n) (hl : Low r n) {i : Nat} (hi : i % n ≠ 0) : (r 0).2 < (r i).2 ∨ ((r 0).2 = (r i).2 ∧ (r i).1 < (r 0).1) := by
  have h3 := h.three
  rw [← h.mod i]
  exact hl _ (Nat.mod_lt _ (by omega)) hi
theorem same_sign {x y s t : Int} (hx : x = 0 ∨ x = 1) (hy : y = 0 ∨ y = 1) (h1 : 0 < (2 * x - 1) * s) (h2 : 0 < (2 * y - 1) * t) (h : (0 < s ∧ 0 < t) ∨ (s < 0 ∧ t < 0)) : x = y := by
  rcases hx with rfl | rfl <;> rcases hy with rfl | rfl <;> omega
section
variable {r : Nat → Int × Int} {n m : Nat} {a c : Int × Int}
/-- A line from the lowest corner to the corner that is farthest from the base lies inside. -/
theorem Wedge.inside (h : Wedge r n a c) (hl : Low r n) (t : Wedge.Top r n a c m) : wsum (fun i => sc 2 (r i)) n (mid2 (r 0) (r m)) ≠ 0 := by
  have lo := t.lo; have hi := t.hi
  have hr := h.simple
  have d := h.diag t
  have h1 := d.part hr
  have h2 := (d.swap hr).part (hr.shift m)
  have hsum := d.lam_sum hr
  obtain ⟨sA, sC⟩ := h.strict lo hi t.inn
  unfold wA at sA
  unfold wC at sC
  -- the first part
  have L1 : Lowest (fun k => Go.Proofs.Ythiemglckmociaa.part r m (k + m)) (m + 1) := by
    intro i hi1 hi2
    have e1 : Go.Proofs.Ythiemglckmociaa.part r m (1 + m) = r 0 := by rw [Nat.add_comm]; exact part_end r m
    simp only [e1]
    by_cases c0 : i = 0
    · subst c0
      rw [Nat.zero_add, part_lt (Nat.le_refl _)]
      exact hl m (by omega) (by omega)
    · have : Go.Proofs.Ythiemglckmociaa.part r m (i + m) = r (i - 1) := by
        unfold Go.Proofs.Ythiemglckmociaa.part
        rw [show i + m = (i - 1) + (m + 1) by omega, Nat.add_mod_right, Nat.mod_eq_of_lt (by omega)]
      rw [this]
      exact hl (i - 1) (by omega) (by omega)
  have x1 := (h1.shift m).ext L1
  rw [lam_shift h1] at x1
  simp only [Nat.zero_add] at x1
  rw [part_lt (Nat.le_refl _), show 1 + m = m + 1 by omega, part_end, show 2 + m = m + 2 by omega, part_end2 (by omega)] at x1
  -- the second part
  have q : ∀ j, j ≤ n - m → Go.Proofs.Ythiemglckmociaa.part (fun k => r (k + m)) (n - m) j = r (j + m) := fun j hj => by rw [part_lt hj]
  have e0 : Go.Proofs.Ythiemglckmociaa.part (fun k => r (k + m)) (n - m) (n - m) = r 0 := by rw [q _ (Nat.le_refl _), show n - m + m = n by omega, hr.per1]
  have L2 : Lowest (fun k => Go.Proofs.Ythiemglckmociaa.part (fun k => r (k + m)) (n - m) (k + (n - m - 1))) (n - m + 1) := by
    intro i hi1 hi2
    have e1 : Go.Proofs.Ythiemglckmociaa.part (fun k => r (k + m)) (n - m) (1 + (n - m - 1)) = r 0 := by rw [show 1 + (n - m - 1) = n - m by omega]; exact e0
    simp only [e1]
    by_cases c0 : i = 0
    · subst c0
      rw [q _ (by omega)]
      exact hl.at hr (by rw [Nat.mod_eq_of_lt (by omega)]; omega)
    · have : Go.Proofs.Ythiemglckmociaa.part (fun k => r (k + m)) (n - m) (i + (n - m - 1)) = r (i - 2 + m) := by
        have : Go.Proofs.Ythiemglckmociaa.part (fun k => r (k + m)) (n - m) (i + (n - m - 1)) = Go.Proofs.Ythiemglckmociaa.part (fun k => r (k + m)) (n - m) (i - 2) := by
          unfold Go.Proofs.Ythiemglckmociaa.part
          rw [show i + (n - m - 1) = (i - 2) + (n - m + 1) by omega, Nat.add_mod_right]
        rw [this, q _ (by omega)]
      rw [this]
      exact hl.at hr (by rw [Nat.mod_eq_of_lt (by omega)]; omega)
  have x2 := (h2.shift (n - m - 1)).ext L2
  rw [lam_shift h2] at x2
  simp only [Nat.zero_add] at x2
  have e2 : Go.Proofs.Ythiemglckmociaa.part (fun k => r (k + m)) (n - m) (2 + (n - m - 1)) = r m := by
    rw [show 2 + (n - m - 1) = n - m + 1 by omega, part_end, Nat.zero_add]
  rw [q _ (by omega), show n - m - 1 + m = n - 1 by omega, show 1 + (n - m - 1) = n - m by omega, e0, e2] at x2
  have hrot := turn_rot (r m) (r 0) (r 1)
  have hlam : lam (Go.Proofs.Ythiemglckmociaa.part r m) (m + 1) 0 = lam (Go.Proofs.Ythiemglckmociaa.part (fun k => r (k + m)) (n - m)) (n - m + 1) 0 := by
    refine same_sign h1.lam01 h2.lam01 x1 x2 ?_
    rcases h.ends with ⟨g1, g2⟩ | ⟨g1, g2⟩
    · rw [g1] at sC; rw [g2] at sA
      exact .inl ⟨by omega, sA⟩
    · rw [g1, turn_swap] at sC; rw [g2, turn_swap] at sA
      exact .inr ⟨by omega, by omega⟩
  have := h1.lam01
  omega
/-- If no other corner is in the triangle at the lowest corner, its base splits the plot. -/
theorem Wedge.base (h : Wedge r n a c) (h4 : 4 ≤ n) (hno : ∀ i, 2 ≤ i → i + 2 ≤ n → ¬ inT a (r 0) c (r i)) : Diag (fun k => r (k + (n - 1))) n 2 := by
  have hr := h.simple
  have q : ∀ k, 1 ≤ k → r (k + (n - 1)) = r (k - 1) := fun k hk => by
    rw [show k + (n - 1) = k - 1 + n by omega, hr.per]
  have q0 : r (0 + (n - 1)) = r (n - 1) := by rw [Nat.zero_add]
  have q1 := q 1 (by omega)
  have q2 := q 2 (by omega)
  have q3 := q 3 (by omega)
  have qn := q (n - 1) (by omega)
  have hpos := h.pos
  have ne0 : turn (r 1) (r (n - 1)) (r 0) ≠ 0 := by
    rcases h.ends with ⟨g1, g2⟩ | ⟨g1, g2⟩
    · rw [g1, g2] at hpos; omega
    · rw [g1, g2, turn_swap] at hpos; omega
  have seg : ∀ i, 2 ≤ i → i + 2 ≤ n → onB (r (n - 1)) (r 1) (r i) = false := fun i hi1 hi2 => by
    cases ho : onB (r (n - 1)) (r 1) (r i)
    · rfl
    · exfalso
      obtain ⟨k, s, hk, hs, hks, e1, e2⟩ := on_pt ho
      have nn : ∀ z y : Int, (k + s) * z = y → 0 ≤ y → 0 ≤ z := fun z y e hy => by
        rcases Int.lt_or_le z 0 with x | x
        · have := mpn hks x; omega
        · exact x
      refine hno i hi1 hi2 ?_
      rcases h.ends with ⟨g1, g2⟩ | ⟨g1, g2⟩
      · rw [g1, g2] at hpos ⊢
        have fB : (k + s) * turn (r 1) (r (n - 1)) (r i) = 0 := by unfold turn; grind
        have fA : (k + s) * turn (r (n - 1)) (r 0) (r i) = s * turn (r 1) (r (n - 1)) (r 0) := by unfold turn; grind
        have fC : (k + s) * turn (r 0) (r 1) (r i) = k * turn (r 1) (r (n - 1)) (r 0) := by unfold turn; grind
        exact ⟨nn _ _ fA (mpp0 hs (by omega)), nn _ _ fB (Int.le_refl _), nn _ _ fC (mpp0 hk (by omega))⟩
      · rw [g1, g2] at hpos ⊢
        have fB : (k + s) * turn (r (n - 1)) (r 1) (r i) = 0 := by unfold turn; grind
        have fA : (k + s) * turn (r 1) (r 0) (r i) = k * turn (r (n - 1)) (r 1) (r 0) := by unfold turn; grind
        have fC : (k + s) * turn (r 0) (r (n - 1)) (r i) = s * turn (r (n - 1)) (r 1) (r 0) := by unfold turn; grind
        exact ⟨nn _ _ fA (mpp0 hk (by omega)), nn _ _ fB (Int.le_refl _), nn _ _ fC (mpp0 hs (by omega))⟩
  refine ⟨Nat.le_refl _, by omega, ?_, ?_, ?_, ?_, ?_⟩
  · rw [q0, q1, q2]; exact fun e => ne0 e.1
  · rw [show 2 - 1 = 1 from rfl, q0, q1, q2]; exact fun e => ne0 (by have := e.1; unfold turn at this ⊢; grind)
  · rw [q0, q2, show 2 + 1 = 3 from rfl, q3]
    rintro ⟨e0, ed⟩
    rcases Int.lt_or_le 0 (dot (r (n - 1)) (r (2 - 1)) (r (3 - 1))) with x | x
    · have := col_between e0 (by unfold dot at ed ⊢; grind) x
      rw [seg 2 (by omega) (by omega)] at this; cases this
    · have h1 : onB (r 1) (r 2) (r (n - 1)) = true := onB_mk (by unfold turn at e0 ⊢; grind) (by unfold dot at x ⊢; grind)
      have h2 := hr.off (i := n - 1) (k := 1) (by omega) (by omega) (by omega) (by rw [Nat.mod_eq_of_lt (by omega)]; omega)
      rw [h2] at h1; cases h1
  · rw [q0, q2, qn]
    rintro ⟨e0, ed⟩
    rcases Int.lt_or_le 0 (dot (r (2 - 1)) (r (n - 1)) (r (n - 1 - 1))) with x | x
    · have := col_between (v := r (2 - 1)) (z := r (n - 1)) (y := r (n - 1 - 1)) (by unfold turn at e0 ⊢; grind) (by unfold dot at ed ⊢; grind) x
      rw [onB_swap, seg (n - 1 - 1) (by omega) (by omega)] at this; cases this
    · have h1 : onB (r (n - 2)) (r (n - 1)) (r 1) = true := onB_mk (by rw [show n - 2 = n - 1 - 1 by omega]; unfold turn at e0 ⊢; grind) (by rw [show n - 2 = n - 1 - 1 by omega]; unfold dot at x ⊢; grind)
      have h2 := hr.off (i := 1) (k := n - 2) (by omega) (by omega) (by omega) (by rw [show n - 2 + 1 = n - 1 by omega, Nat.mod_eq_of_lt (by omega)]; omega)
      rw [show n - 2 + 1 = n - 1 by omega] at h2
      rw [h2] at h1; cases h1
  · intro k hk k0 k1 k2 k3
    rw [q0, q2, q k (by omega), q (k + 1) (by omega), show 2 - 1 = 1 from rfl, show k + 1 - 1 = k from rfl]
    refine Classical.byContradiction fun hna => ?_
    obtain ⟨l, mm, kk, tt, hl, hmm, hkk, htt, hs, hS, e1, e2⟩ := common hna
    have eX : mix l (r (n - 1)) mm (r 1) = mix kk (r (k - 1)) tt (r k) := Prod.ext e1 e2
    obtain ⟨S, hSe⟩ : ∃ S, kk + tt = S := ⟨_, rfl⟩
    have hs2 : l + mm = S := by omega
    have hSp : 0 < S := by omega
    have hk1 : k - 1 + 1 = k := by omega
    have hXon : onB (sc S (r (k - 1))) (sc S (r (k - 1 + 1))) (mix l (r (n - 1)) mm (r 1)) = true := by rw [eX, hk1, ← hSe]; exact on_mix hkk htt (by omega)
    have tB := turn_mix a c (r (n - 1)) (r 1) l mm
    have tB2 := turn_mix a c (r (k - 1)) (r k) kk tt
    have tA := turn_mix c (r 0) (r (n - 1)) (r 1) l mm
    have tC := turn_mix (r 0) a (r (n - 1)) (r 1) l mm
    rw [← eX, hSe] at tB2
    rw [hs2] at tA tB tC
    obtain ⟨w1, w2⟩ := h.zero
    unfold wB at w1 w2
    rw [w1, w2, Int.mul_zero, Int.mul_zero, Int.add_zero, Int.mul_zero] at tB
    have hF : 0 = kk * turn a c (r (k - 1)) + tt * turn a c (r k) := by
      have := tB.symm.trans tB2
      rcases Int.mul_eq_zero.1 this.symm with x | x
      · omega
      · exact x.symm
    have hAC : 0 ≤ turn (sc S c) (sc S (r 0)) (mix l (r (n - 1)) mm (r 1)) ∧ 0 ≤ turn (sc S (r 0)) (sc S a) (mix l (r (n - 1)) mm (r 1)) := by
      rw [tA, tC]
      have z1 : turn (r 1) (r 0) (r 1) = 0 := by unfold turn; grind
      have z2 : turn (r (n - 1)) (r 0) (r (n - 1)) = 0 := by unfold turn; grind
      have z3 : turn (r 0) (r 1) (r 1) = 0 := by unfold turn; grind
      have z4 : turn (r 0) (r (n - 1)) (r (n - 1)) = 0 := by unfold turn; grind
      rcases h.ends with ⟨g1, g2⟩ | ⟨g1, g2⟩
      · rw [g1, g2] at hpos ⊢
        have f1 : turn (r (n - 1)) (r 0) (r 1) = turn (r 1) (r (n - 1)) (r 0) := by unfold turn; grind
        have f2 : turn (r 0) (r 1) (r (n - 1)) = turn (r 1) (r (n - 1)) (r 0) := by unfold turn; grind
        rw [z2, z3, f1, f2, Int.mul_zero, Int.mul_zero, Int.zero_add, Int.add_zero]
        exact ⟨mpp0 (by omega) (mpp0 hmm (by omega)), mpp0 (by omega) (mpp0 hl (by omega))⟩
      · rw [g1, g2] at hpos ⊢
        have f1 : turn (r 1) (r 0) (r (n - 1)) = turn (r (n - 1)) (r 1) (r 0) := by unfold turn; grind
        have f2 : turn (r 0) (r (n - 1)) (r 1) = turn (r (n - 1)) (r 1) (r 0) := by unfold turn; grind
        rw [z1, z4, f1, f2, Int.mul_zero, Int.mul_zero, Int.zero_add, Int.add_zero]
        exact ⟨mpp0 (by omega) (mpp0 hl (by omega)), mpp0 (by omega) (mpp0 hmm (by omega))⟩
    have main : ∀ i, (i = k - 1 ∨ i = k) → 0 ≤ (kk + tt) * turn a c (r i) → False := fun i hi' hfi => by
      have hfp : 0 ≤ turn a c (r i) := by
        rcases Int.lt_or_le (turn a c (r i)) 0 with x | x
        · rw [hSe] at hfi; have := mpn hSp x; omega
        · exact x
      have hout := hno i (by omega) (by omega)
      have hss := hr.scale hSp
      have hYon : onB (sc S (r (k - 1))) (sc S (r (k - 1 + 1))) (sc S (r i)) = true := by
        rw [hk1]
        rcases hi' with rfl | rfl
        · exact sc_left _ _ _
        · exact sc_right _ _ _
      have A0 : apart (mix l (r (n - 1)) mm (r 1)) (sc S (r i)) (sc S (r 0)) (sc S (r 1)) := by
        refine hss.side_side (k := k - 1) (j := 0) (by omega) (by omega) (by omega) hXon hYon ?_ ?_
        · intro e; rw [Nat.mod_eq_of_lt (by omega)] at e; omega
        · intro e; rw [Nat.zero_add, Nat.mod_eq_of_lt (by omega)] at e; omega
      have A1 : apart (mix l (r (n - 1)) mm (r 1)) (sc S (r i)) (sc S (r (n - 1))) (sc S (r 0)) := by
        have := hss.side_side (k := k - 1) (j := n - 1) (by omega) (by omega) (by omega) hXon hYon (by
          intro e; rw [Nat.mod_eq_of_lt (by omega)] at e; omega) (by
          intro e; rw [show n - 1 + 1 = n by omega, Nat.mod_self] at e; omega)
        rwa [show n - 1 + 1 = n by omega, hr.per1] at this
      refine leave (a := sc S a) (b := sc S (r 0)) (c := sc S c) (x := mix l (r (n - 1)) mm (r 1)) (q := sc S (r i)) ?_ ⟨hAC.1, ?_, hAC.2⟩ ?_ ?_ ?_ ?_
      · rw [turn_sc]; exact mpp (mpp hSp hSp) hpos
      · show 0 ≤ turn (sc S a) (sc S c) _
        rw [tB]; exact Int.le_refl _
      · show 0 ≤ turn (sc S a) (sc S c) _
        rw [turn_sc]; exact mpp0 (mpp0 (by omega) (by omega)) hfp
      · rw [inT_sc hSp]; exact hout
      · rcases h.ends with ⟨g1, _⟩ | ⟨g1, _⟩
        · rw [g1]; exact apart_swap A0
        · rw [g1]; exact A1
      · rcases h.ends with ⟨_, g1⟩ | ⟨_, g1⟩
        · rw [g1]; exact apart_swap A1
        · rw [g1]; exact A0
    rcases far_end hkk htt (by omega) hF with x | x
    · exact main _ (.inl rfl) x
    · exact main _ (.inr rfl) x
end
end Go.Proofs.Ythiemglckmociaa
