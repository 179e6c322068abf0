/- Plain geometry of plots, eighth part: a line from the lowest corner. No program in sight. No conditions. -/
import Derived.Test.YthiemglckmociaaGeo7
namespace Go.Proofs.Ythiemglckmociaa
theorem on_pt {a b z : Int × Int} (ho : onB a b z = true) : ∃ k t : Int, 0 ≤ k ∧ 0 ≤ t ∧ 0 < k + t ∧ (k + t) * z.1 = k * a.1 + t * b.1 ∧ (k + t) * z.2 = k * a.2 + t * b.2 := by
  obtain ⟨l, m, k, t, h1, h2, h3, h4, h5, h6, h7, h8⟩ := common (x := z) (y := z) (a := a) (b := b) (fun h => by rw [h.1] at ho; cases ho)
  exact ⟨k, t, h3, h4, by omega, by rw [← h5, Int.add_mul]; exact h7, by rw [← h5, Int.add_mul]; exact h8⟩
theorem col_between {v z y : Int × Int} (h0 : turn v z y = 0) (h1 : 0 < dot z y v) (h2 : 0 < dot v z y) : onB v z y = true := by
  refine onB_mk h0 ?_
  have e : dot y v z * (dot z y v + dot v z y) = turn v z y * turn v z y - dot z y v * dot v z y := by unfold dot turn; grind
  rw [h0] at e
  have m1 := mpp h1 h2
  rcases Int.lt_or_le 0 (dot y v z) with c | c
  · have := mpp c (show 0 < dot z y v + dot v z y by omega); omega
  · exact c
/-- Corner 0 of a plot, and its two neighbours, the first on the left of the way from the second to corner 0. -/
structure Wedge (r : Nat → Int × Int) (n : Nat) (a c : Int × Int) : Prop where
  simple : Simple r n
  ends : (a = r 1 ∧ c = r (n - 1)) ∨ (a = r (n - 1) ∧ c = r 1)
  pos : 0 < turn a c (r 0)
/-- Corner m is in the triangle, and none is farther from its base. -/
structure Wedge.Top (r : Nat → Int × Int) (n : Nat) (a c : Int × Int) (m : Nat) : Prop where
  lo : 2 ≤ m
  hi : m + 2 ≤ n
  inn : inT a (r 0) c (r m)
  max : ∀ i, 2 ≤ i → i + 2 ≤ n → inT a (r 0) c (r i) → wB a (r 0) c (r i) ≤ wB a (r 0) c (r m)
section
variable {r : Nat → Int × Int} {n m : Nat} {a c : Int × Int}
theorem Wedge.zero (h : Wedge r n a c) : wB a (r 0) c (r 1) = 0 ∧ wB a (r 0) c (r (n - 1)) = 0 := by
  have e1 : turn a c a = 0 := by unfold turn; grind
  have e2 : turn a c c = 0 := by unfold turn; grind
  unfold wB
  rcases h.ends with ⟨h1, h2⟩ | ⟨h1, h2⟩
  · rw [← h1, ← h2]; exact ⟨e1, e2⟩
  · rw [← h1, ← h2]; exact ⟨e2, e1⟩
/-- A corner in the triangle is on none of its two sides at corner 0. -/
theorem Wedge.strict (h : Wedge r n a c) (lo : 2 ≤ m) (hi : m + 2 ≤ n) (hz : inT a (r 0) c (r m)) : 0 < wA a (r 0) c (r m) ∧ 0 < wC a (r 0) c (r m) := by
  obtain ⟨z1, z2, z3⟩ := hz
  have hs := weights_sum a (r 0) c (r m)
  have hx := weights a (r 0) c (r m) 1 0 0
  have hy := weights a (r 0) c (r m) 0 1 0
  simp only [Int.one_mul, Int.zero_mul, Int.add_zero, Int.zero_add] at hx hy
  have o0 : onB (r 0) (r 1) (r m) = false := h.simple.off (i := m) (k := 0) (by omega) (by omega) (by omega) (by rw [Nat.zero_add, Nat.mod_eq_of_lt (by omega)]; omega)
  have o1 : onB (r (n - 1)) (r 0) (r m) = false := by
    have := h.simple.off (i := m) (k := n - 1) (by omega) (by omega) (by omega) (by rw [show n - 1 + 1 = n by omega, Nat.mod_self]; omega)
    rwa [show n - 1 + 1 = n by omega, h.simple.per1] at this
  have hA : onB a (r 0) (r m) = false := by
    rcases h.ends with ⟨h1, _⟩ | ⟨h1, _⟩
    · rw [h1, onB_swap]; exact o0
    · rw [h1]; exact o1
  have hC : onB (r 0) c (r m) = false := by
    rcases h.ends with ⟨_, h1⟩ | ⟨_, h1⟩
    · rw [h1, onB_swap]; exact o1
    · rw [h1]; exact o0
  constructor
  · rcases Int.lt_or_le 0 (wA a (r 0) c (r m)) with k | k
    · exact k
    · have k0 : wA a (r 0) c (r m) = 0 := by omega
      rw [k0] at hs hx hy
      have := on_weights (a := r 0) (b := c) (x := r m) z2 z3 (by omega) h.pos (by omega) (by omega)
      rw [this] at hC; cases hC
  · rcases Int.lt_or_le 0 (wC a (r 0) c (r m)) with k | k
    · exact k
    · have k0 : wC a (r 0) c (r m) = 0 := by omega
      rw [k0] at hs hx hy
      have := on_weights (a := a) (b := r 0) (x := r m) z1 z2 (by omega) h.pos (by omega) (by omega)
      rw [this] at hA; cases hA
theorem Wedge.free (h : Wedge r n a c) (t : Wedge.Top r n a c m) : ∀ k, k < n → k ≠ 0 → k + 1 ≠ m → k ≠ m → k + 1 ≠ n → apart (r 0) (r m) (r k) (r (k + 1)) := by
  have lo := t.lo; have hi := t.hi
  intro k hk k0 k1 k2 k3
  refine Classical.byContradiction fun hna => ?_
  obtain ⟨l, mm, kk, tt, hl, hmm, hkk, htt, hs, hS, e1, e2⟩ := common hna
  have eX : mix l (r 0) mm (r m) = mix kk (r k) tt (r (k + 1)) := Prod.ext e1 e2
  have hzon : onB (r k) (r (k + 1)) (r m) = false := h.simple.off (by omega) hk k2 (by rw [Nat.mod_eq_of_lt (by omega)]; exact k1)
  have hXon : onB (sc (l + mm) (r k)) (sc (l + mm) (r (k + 1))) (mix l (r 0) mm (r m)) = true := by rw [eX, hs]; exact on_mix hkk htt (by omega)
  have hl0 : l ≠ 0 := fun e => by
    subst e
    rw [Int.zero_add] at hXon hS
    have : mix 0 (r 0) mm (r m) = sc mm (r m) := by unfold mix sc; simp
    rw [this, onB_sc hS] at hXon
    rw [hXon] at hzon; cases hzon
  have hlp : 0 < l := by omega
  have hDv : turn a c (r 0) = wB a (r 0) c (r 0) := rfl
  obtain ⟨zA, zB, zC⟩ := t.inn
  obtain ⟨sA, sC⟩ := h.strict lo hi t.inn
  have hsum := weights_sum a (r 0) c (r m)
  have hpos := h.pos
  -- the height of the common point
  have t1 := turn_mix a c (r 0) (r m) l mm
  have t2 := turn_mix a c (r k) (r (k + 1)) kk tt
  rw [eX, hs] at t1
  have hF : l * turn a c (r 0) + mm * turn a c (r m) = kk * turn a c (r k) + tt * turn a c (r (k + 1)) := by
    have := t1.symm.trans t2
    exact Int.eq_of_mul_eq_mul_left (by omega) this
  have hFp : 0 < l * turn a c (r 0) + mm * turn a c (r m) := by
    have := mpp hlp hpos
    have := mpp0 hmm zB
    unfold wB at this
    omega
  obtain ⟨F, hFe⟩ : ∃ F, l * turn a c (r 0) + mm * turn a c (r m) = F := ⟨_, rfl⟩
  rw [hFe] at hF hFp
  have main : ∀ i, (i = k ∨ i = k + 1) → F ≤ (kk + tt) * turn a c (r i) → False := fun i hi' hfi => by
    have hSp : 0 < kk + tt := by omega
    have hfp : 0 < turn a c (r i) := by
      rcases Int.lt_or_le 0 (turn a c (r i)) with x | x
      · exact x
      · have := mpn0 (Int.le_of_lt hSp) x; omega
    obtain ⟨w1, w2⟩ := h.zero
    unfold wB at w1 w2
    have i1 : i ≠ 1 := fun e => by rw [e, w1] at hfp; omega
    have i2 : i ≠ n - 1 := fun e => by rw [e, w2] at hfp; omega
    by_cases hin : inT a (r 0) c (r i)
    · have hmx := t.max i (by omega) (by omega) hin
      unfold wB at hmx hsum
      have q1 := Int.mul_le_mul_of_nonneg_left hmx (Int.le_of_lt hSp)
      have q2 := mpp hlp (show 0 < turn a c (r 0) - turn a c (r m) by omega)
      rw [Int.mul_sub] at q2
      rw [← hs] at q1
      rw [← hs] at hfi
      have q4 : (l + mm) * turn a c (r m) = l * turn a c (r m) + mm * turn a c (r m) := Int.add_mul _ _ _
      omega
    · -- the way from the common point to that end leaves the triangle
      obtain ⟨S, hSe⟩ : ∃ S, kk + tt = S := ⟨_, rfl⟩
      have hs2 : l + mm = S := by omega
      rw [hSe] at hSp
      rw [hs2] at hXon
      have tB := turn_mix a c (r 0) (r m) l mm
      have tA := turn_mix c (r 0) (r 0) (r m) l mm
      have tC := turn_mix (r 0) a (r 0) (r m) l mm
      rw [hs2] at tA tB tC
      rw [show turn c (r 0) (r 0) = 0 by unfold turn; grind, Int.mul_zero, Int.zero_add] at tA
      rw [show turn (r 0) a (r 0) = 0 by unfold turn; grind, Int.mul_zero, Int.zero_add] at tC
      rw [hFe] at tB
      have hXb : 0 < turn (sc S a) (sc S c) (mix l (r 0) mm (r m)) := by rw [tB]; exact mpp hSp hFp
      have hSi : 0 < turn (sc S a) (sc S c) (sc S (r i)) := by rw [turn_sc]; exact mpp (mpp hSp hSp) hfp
      have z1 : turn (sc S a) (sc S c) (sc S (r 1)) = 0 := by rw [turn_sc, w1, Int.mul_zero]
      have z2 : turn (sc S a) (sc S c) (sc S (r (n - 1))) = 0 := by rw [turn_sc, w2, Int.mul_zero]
      have hss := h.simple.scale hSp
      have hYon : onB (sc S (r k)) (sc S (r (k + 1))) (sc S (r i)) = true := by
        rcases hi' with rfl | rfl
        · exact sc_left _ _ _
        · exact sc_right _ _ _
      have A0 : apart (mix l (r 0) mm (r m)) (sc S (r i)) (sc S (r 0)) (sc S (r 1)) := by
        refine hss.side_side (k := k) (j := 0) hk (by omega) (by omega) hXon hYon ?_ ?_
        · intro e; rw [Nat.mod_eq_of_lt (by omega)] at e; omega
        · intro e
          rw [Nat.zero_add, Nat.mod_eq_of_lt (by omega)] at e
          subst e
          exact ⟨fun e => by rw [e, z1] at hXb; omega, fun e => by rw [e, z1] at hSi; omega⟩
      have A1 : apart (mix l (r 0) mm (r m)) (sc S (r i)) (sc S (r (n - 1))) (sc S (r 0)) := by
        have := hss.side_side (k := k) (j := n - 1) hk (by omega) (by omega) hXon hYon (by
          intro e
          rw [Nat.mod_eq_of_lt (by omega)] at e
          exact ⟨fun e => by rw [e, z2] at hXb; omega, fun e => by rw [e, z2] at hSi; omega⟩) (by
          intro e
          rw [show n - 1 + 1 = n by omega, Nat.mod_self] at e
          omega)
        rwa [show n - 1 + 1 = n by omega, h.simple.per1] at this
      have hmz := mpp0 hmm zA
      have hmz2 := mpp0 hmm zC
      unfold wA at hmz
      unfold wC at hmz2
      refine leave (a := sc S a) (b := sc S (r 0)) (c := sc S c) (x := mix l (r 0) mm (r m)) (q := sc S (r i)) ?_ ⟨?_, Int.le_of_lt hXb, ?_⟩ (Int.le_of_lt hSi) ?_ ?_ ?_
      · rw [turn_sc]; exact mpp (mpp hSp hSp) hpos
      · show 0 ≤ turn (sc S c) (sc S (r 0)) _
        rw [tA]; exact mpp0 (Int.le_of_lt hSp) hmz
      · show 0 ≤ turn (sc S (r 0)) (sc S a) _
        rw [tC]; exact mpp0 (Int.le_of_lt hSp) hmz2
      · rw [inT_sc hSp]; exact hin
      · rcases h.ends with ⟨g1, _⟩ | ⟨g1, _⟩
        · rw [g1]; exact apart_swap A0
        · rw [g1]; exact A1
      · rcases h.ends with ⟨_, g1⟩ | ⟨_, g1⟩
        · rw [g1]; exact apart_swap A1
        · rw [g1]; exact A0
  rcases far_end hkk htt (by omega) hF with x | x
  · exact main k (.inl rfl) x
  · exact main (k + 1) (.inr rfl) x
/-- No corner lies on the line between corner 0 and corner m. -/
theorem Wedge.between (h : Wedge r n a c) (t : Wedge.Top r n a c m) {i : Nat} (hi1 : 1 ≤ i) (hi2 : i < n) (him : i ≠ m) : onB (r 0) (r m) (r i) = false := by
  have lo := t.lo; have hi := t.hi
  cases ho : onB (r 0) (r m) (r i)
  · rfl
  · exfalso
    obtain ⟨k, s, hk, hs, hks, e1, e2⟩ := on_pt ho
    obtain ⟨zA, zB, zC⟩ := t.inn
    obtain ⟨sA, sC⟩ := h.strict lo hi t.inn
    have hsum := weights_sum a (r 0) c (r m)
    have hk0 : k ≠ 0 := fun e => by
      subst e
      rw [Int.zero_add] at e1 e2 hks
      rw [Int.zero_mul, Int.zero_add] at e1 e2
      have d1 := Int.eq_of_mul_eq_mul_left (by omega) e1
      have d2 := Int.eq_of_mul_eq_mul_left (by omega) e2
      exact him (h.simple.inj i m hi2 (by omega) (Prod.ext d1 d2))
    have fB : (k + s) * turn a c (r i) = k * turn a c (r 0) + s * turn a c (r m) := by unfold turn; grind
    have fA : (k + s) * turn c (r 0) (r i) = s * turn c (r 0) (r m) := by unfold turn; grind
    have fC : (k + s) * turn (r 0) a (r i) = s * turn (r 0) a (r m) := by unfold turn; grind
    unfold wA wB wC at *
    have p1 := mpp (show 0 < k by omega) (show 0 < turn a c (r 0) - turn a c (r m) by omega)
    rw [Int.mul_sub] at p1
    have hlt : turn a c (r m) < turn a c (r i) := by
      rcases Int.lt_or_le (turn a c (r m)) (turn a c (r i)) with x | x
      · exact x
      · have q := Int.mul_le_mul_of_nonneg_left x (Int.le_of_lt hks)
        rw [fB, Int.add_mul] at q
        omega
    obtain ⟨w1, w2⟩ := h.zero
    unfold wB at w1 w2
    have i1 : i ≠ 1 := fun e => by rw [e, w1] at hlt; omega
    have i2 : i ≠ n - 1 := fun e => by rw [e, w2] at hlt; omega
    have nn : ∀ z y : Int, (k + s) * z = s * y → 0 ≤ y → 0 ≤ z := fun z y e hy => by
      have := mpp0 hs hy
      rcases Int.lt_or_le z 0 with x | x
      · have := mpn hks x; omega
      · exact x
    have := t.max i (by omega) (by omega) ⟨nn _ _ fA zA, by show 0 ≤ turn a c (r i); omega, nn _ _ fC zC⟩
    unfold wB at this
    omega
theorem Wedge.diag (h : Wedge r n a c) (t : Wedge.Top r n a c m) : Diag r n m := by
  have lo := t.lo; have hi := t.hi
  obtain ⟨sA, sC⟩ := h.strict lo hi t.inn
  unfold wA at sA
  unfold wC at sC
  have n1 : turn (r m) (r 0) (r 1) ≠ 0 := by
    have e := turn_rot (r m) (r 0) (r 1)
    rcases h.ends with ⟨g1, _⟩ | ⟨_, g1⟩
    · rw [g1] at sC; omega
    · rw [g1, turn_swap] at sA; omega
  have n2 : turn (r (n - 1)) (r 0) (r m) ≠ 0 := by
    rcases h.ends with ⟨_, g1⟩ | ⟨g1, _⟩
    · rw [g1] at sA; omega
    · rw [g1, turn_swap] at sC; omega
  have nb : ∀ i, 1 ≤ i → i < n → i ≠ m → (onB (r i) (r m) (r 0) = false) → turn (r 0) (r m) (r i) = 0 → 0 < dot (r m) (r i) (r 0) → False := fun i h1 h2 h3 hoff e0 ed => by
    rcases Int.lt_or_le 0 (dot (r 0) (r m) (r i)) with x | x
    · have := col_between e0 ed x
      rw [h.between t h1 h2 h3] at this; cases this
    · have : onB (r i) (r m) (r 0) = true := onB_mk (by unfold turn at e0 ⊢; grind) (by unfold dot at x ⊢; grind)
      rw [this] at hoff; cases hoff
  refine ⟨lo, hi, fun e => n1 e.1, ?_, ?_, fun e => n2 e.1, h.free t⟩
  · rintro ⟨e0, ed⟩
    refine nb (m - 1) (by omega) (by omega) (by omega) ?_ (by unfold turn at e0 ⊢; grind) ed
    have := h.simple.off (i := 0) (k := m - 1) (by omega) (by omega) (by omega) (by rw [show m - 1 + 1 = m by omega, Nat.mod_eq_of_lt (by omega)]; omega)
    rwa [show m - 1 + 1 = m by omega] at this
  · rintro ⟨e0, ed⟩
    refine nb (m + 1) (by omega) (by omega) (by omega) ?_ e0 (by unfold dot at ed ⊢; grind)
    rw [onB_swap]
    exact h.simple.off (i := 0) (k := m) (by omega) (by omega) (by omega) (by rw [Nat.mod_eq_of_lt (by omega)]; omega)
end
end Go.Proofs.Ythiemglckmociaa
