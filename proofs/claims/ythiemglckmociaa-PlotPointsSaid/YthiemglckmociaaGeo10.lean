/- Plain geometry of plots, tenth part: some line inside splits each plot of four corners or more. No program in sight. No conditions. -/
import Derived.Test.YthiemglckmociaaGeo9
namespace Go.Proofs.Ythiemglckmociaa
/-- A point on the right of the way from s to t, of which all corners are on the left: what is near it is gone round by nothing. -/
theorem near_out {p : Nat → Int × Int} {n : Nat} (hper : p n = p 0) {s t y z : Int × Int} (hy : turn s t y < 0) (h : ∀ i, i ≤ n → 0 ≤ turn s t (p i)) :
    ∃ k0 : Int, ∀ k, k0 ≤ k → 0 < k → wsum (fun i => sc k (p i)) n (near k y z) = 0 := by
  refine ⟨(turn s t z - turn s t y).natAbs + 1, fun k hk hk0 => ?_⟩
  refine wsum_sep (u := -(t.2 - s.2)) (v := t.1 - s.1) (g := k * ((t.2 - s.2) * s.1 - (t.1 - s.1) * s.2)) ?_ ?_ ?_
  · show sc k (p n) = sc k (p 0); rw [hper]
  · have e : -(t.2 - s.2) * (near k y z).1 + (t.1 - s.1) * (near k y z).2 + k * ((t.2 - s.2) * s.1 - (t.1 - s.1) * s.2) = k * turn s t y + (turn s t z - turn s t y) := by unfold near turn; grind
    rw [e]
    have := Int.mul_le_mul_of_nonneg_left (show turn s t y ≤ -1 by omega) (Int.le_of_lt hk0)
    omega
  · intro i hi
    have e : -(t.2 - s.2) * (sc k (p i)).1 + (t.1 - s.1) * (sc k (p i)).2 + k * ((t.2 - s.2) * s.1 - (t.1 - s.1) * s.2) = k * turn s t (p i) := by unfold sc turn; grind
    rw [e]
    exact mpp0 (Int.le_of_lt hk0) (h i hi)
section
variable {r : Nat → Int × Int} {n : Nat} {a c : Int × Int}
theorem Wedge.base_inside (h : Wedge r n a c) (hl : Low r n) (h4 : 4 ≤ n) (hno : ∀ i, 2 ≤ i → i + 2 ≤ n → ¬ inT a (r 0) c (r i)) :
    wsum (fun i => sc 2 (r (i + (n - 1)))) n (mid2 (r (0 + (n - 1))) (r (2 + (n - 1)))) ≠ 0 := by
  have hr := h.simple
  have d := h.base h4 hno
  have hq := hr.shift (n - 1)
  have q : ∀ k, 1 ≤ k → r (k + (n - 1)) = r (k - 1) := fun k hk => by
    rw [show k + (n - 1) = k - 1 + n by omega, hr.per]
  have q0 : r (0 + (n - 1)) = r (n - 1) := by rw [Nat.zero_add]
  have hpos := h.pos
  have h1 := d.part hq
  have hsum := d.lam_sum hq
  have hd := (d.swap hq).part (hq.shift 2)
  -- the plot's direction is that of its lowest corner
  have X1 : Lowest (fun k => r (k + (n - 1))) n := by
    intro i hi1 hi2
    simp only [q 1 (by omega)]
    by_cases c0 : i = 0
    · subst c0; rw [q0]; exact hl (n - 1) (by omega) (by omega)
    · rw [q i (by omega)]; exact hl (i - 1) (by omega) (by omega)
  have x1 := hq.ext X1
  -- so is the triangle's
  have pl : ∀ i, i ≤ 2 → Go.Proofs.Ythiemglckmociaa.part (fun k => r (k + (n - 1))) 2 i = r (i + (n - 1)) := fun i hi => by rw [part_lt hi]
  have X2 : Lowest (Go.Proofs.Ythiemglckmociaa.part (fun k => r (k + (n - 1))) 2) (2 + 1) := by
    intro i hi1 hi2
    rw [pl 1 (by omega), pl i (by omega)]
    exact X1 i (by omega) hi2
  have x2 := h1.ext X2
  rw [pl 0 (by omega), pl 1 (by omega), pl 2 (by omega)] at x2
  -- the rest goes round as the whole does
  have hper3 : Go.Proofs.Ythiemglckmociaa.part (fun k => r (k + (n - 1))) 2 (2 + 1) = Go.Proofs.Ythiemglckmociaa.part (fun k => r (k + (n - 1))) 2 0 := h1.per1
  have hout : ∃ k0 : Int, ∀ k, k0 ≤ k → 0 < k → wsum (fun i => sc k (Go.Proofs.Ythiemglckmociaa.part (fun k => r (k + (n - 1))) 2 i)) (2 + 1) (near k (r 2) (r 1)) = 0 := by
    have corners : ∀ (s t : Int × Int), 0 ≤ turn s t (r (n - 1)) → 0 ≤ turn s t (r 0) → 0 ≤ turn s t (r 1) → ∀ i, i ≤ 2 + 1 → 0 ≤ turn s t (Go.Proofs.Ythiemglckmociaa.part (fun k => r (k + (n - 1))) 2 i) := fun s t g1 g2 g3 i hi => by
      rcases (show i = 0 ∨ i = 1 ∨ i = 2 ∨ i = 3 by omega) with rfl | rfl | rfl | rfl
      · rw [pl 0 (by omega), q0]; exact g1
      · rw [pl 1 (by omega), q 1 (by omega)]; exact g2
      · rw [pl 2 (by omega), q 2 (by omega)]; exact g3
      · rw [hper3, pl 0 (by omega), q0]; exact g1
    have hn2 := hno 2 (by omega) (by omega)
    have e1 : turn a c a = 0 := by unfold turn; grind
    have e2 : turn a c c = 0 := by unfold turn; grind
    have e3 : turn c (r 0) a = turn a c (r 0) := by unfold turn; grind
    have e4 : turn c (r 0) (r 0) = 0 := by unfold turn; grind
    have e5 : turn c (r 0) c = 0 := by unfold turn; grind
    have e6 : turn (r 0) a a = 0 := by unfold turn; grind
    have e7 : turn (r 0) a (r 0) = 0 := by unfold turn; grind
    have e8 : turn (r 0) a c = turn a c (r 0) := by unfold turn; grind
    by_cases wa : turn c (r 0) (r 2) < 0
    · refine near_out (s := c) (t := r 0) hper3 wa (corners _ _ ?_ (by omega) ?_)
      · rcases h.ends with ⟨_, g⟩ | ⟨g, _⟩
        · rw [← g]; omega
        · rw [← g]; omega
      · rcases h.ends with ⟨g, _⟩ | ⟨_, g⟩
        · rw [← g]; omega
        · rw [← g]; omega
    · by_cases wb : turn a c (r 2) < 0
      · refine near_out (s := a) (t := c) hper3 wb (corners _ _ ?_ (by omega) ?_)
        · rcases h.ends with ⟨_, g⟩ | ⟨g, _⟩
          · rw [← g]; omega
          · rw [← g]; omega
        · rcases h.ends with ⟨g, _⟩ | ⟨_, g⟩
          · rw [← g]; omega
          · rw [← g]; omega
      · have wc : turn (r 0) a (r 2) < 0 := by
          rcases Int.lt_or_le (turn (r 0) a (r 2)) 0 with x | x
          · exact x
          · exact absurd ⟨by show 0 ≤ turn c (r 0) (r 2); omega, by show 0 ≤ turn a c (r 2); omega, x⟩ hn2
        refine near_out (s := r 0) (t := a) hper3 wc (corners _ _ ?_ (by omega) ?_)
        · rcases h.ends with ⟨_, g⟩ | ⟨g, _⟩
          · rw [← g]; omega
          · rw [← g]; omega
        · rcases h.ends with ⟨g, _⟩ | ⟨_, g⟩
          · rw [← g]; omega
          · rw [← g]; omega
  obtain ⟨k0, hk0⟩ := hout
  obtain ⟨k, hke⟩ : ∃ k : Int, k = max k0 2 := ⟨_, rfl⟩
  have hz := hk0 k (by omega) (by omega)
  -- a point near corner 2, on the side from corner 1
  have hne : r 1 ≠ r 2 := hr.ne_next 1
  have hin := near_inn (k := k) (by omega) hne
  have y1 := hq.lam_eq 2 (k := k) (by omega) (x := near k (r 2) (r 1)) (by
    show inn (sc k (r (2 + (n - 1)))) (sc k (r (2 + 1 + (n - 1)))) _
    rw [q 2 (by omega), q (2 + 1) (by omega)]; exact hin)
  have r0 : Go.Proofs.Ythiemglckmociaa.part (fun k => r (k + 2 + (n - 1))) (n - 2) 0 = r 1 := by
    rw [part_lt (by omega)]
    show r (0 + 2 + (n - 1)) = r 1
    rw [Nat.zero_add, q 2 (by omega)]
  have r1 : Go.Proofs.Ythiemglckmociaa.part (fun k => r (k + 2 + (n - 1))) (n - 2) (0 + 1) = r 2 := by
    rw [part_lt (by omega)]
    show r (0 + 1 + 2 + (n - 1)) = r 2
    rw [show 0 + 1 + 2 + (n - 1) = 3 + (n - 1) by omega, q 3 (by omega)]
  have y2 := hd.lam_eq 0 (k := k) (by omega) (x := near k (r 2) (r 1)) (by
    show inn (sc k (Go.Proofs.Ythiemglckmociaa.part (fun k => r (k + 2 + (n - 1))) (n - 2) 0)) (sc k (Go.Proofs.Ythiemglckmociaa.part (fun k => r (k + 2 + (n - 1))) (n - 2) (0 + 1))) _
    rw [r0, r1]; exact hin)
  have yw := wsum_parts (p := fun i => sc k (r (i + (n - 1)))) (n := n) (m := 2) (by show sc k (r (n + (n - 1))) = sc k (r (0 + (n - 1))); rw [show n + (n - 1) = (0 + (n - 1)) + n by omega, hr.per]) (by omega) (near k (r 2) (r 1))
  have lq := hq.lam_all 2
  have y1' : wsum (fun i => sc k (r (i + (n - 1)))) n (near k (r 2) (r 1)) + up (r 1) (r 2) = lam (fun k => r (k + (n - 1))) n 2 := by
    have : up ((fun k => r (k + (n - 1))) 2) ((fun k => r (k + (n - 1))) (2 + 1)) = up (r 1) (r 2) := by
      show up (r (2 + (n - 1))) (r (2 + 1 + (n - 1))) = _
      rw [q 2 (by omega), q (2 + 1) (by omega)]
    rw [this] at y1; exact y1
  have y2' : wsum (fun i => sc k (Go.Proofs.Ythiemglckmociaa.part (fun k => r (k + 2 + (n - 1))) (n - 2) i)) (n - 2 + 1) (near k (r 2) (r 1)) + up (r 1) (r 2) = lam (Go.Proofs.Ythiemglckmociaa.part (fun k => r (k + 2 + (n - 1))) (n - 2)) (n - 2 + 1) 0 := by
    have y2b : wsum (fun i => sc k (Go.Proofs.Ythiemglckmociaa.part (fun k => r (k + 2 + (n - 1))) (n - 2) i)) (n - 2 + 1) (near k (r 2) (r 1)) + up (Go.Proofs.Ythiemglckmociaa.part (fun k => r (k + 2 + (n - 1))) (n - 2) 0) (Go.Proofs.Ythiemglckmociaa.part (fun k => r (k + 2 + (n - 1))) (n - 2) (0 + 1)) = lam (Go.Proofs.Ythiemglckmociaa.part (fun k => r (k + 2 + (n - 1))) (n - 2)) (n - 2 + 1) 0 := y2
    rw [r0, r1] at y2b; exact y2b
  have yw' : wsum (fun i => sc k (r (i + (n - 1)))) n (near k (r 2) (r 1)) = wsum (fun i => sc k (Go.Proofs.Ythiemglckmociaa.part (fun k => r (k + (n - 1))) 2 i)) (2 + 1) (near k (r 2) (r 1)) + wsum (fun i => sc k (Go.Proofs.Ythiemglckmociaa.part (fun k => r (k + 2 + (n - 1))) (n - 2) i)) (n - 2 + 1) (near k (r 2) (r 1)) := yw
  have hsum' : lam (Go.Proofs.Ythiemglckmociaa.part (fun k => r (k + (n - 1))) 2) (2 + 1) 0 + lam (Go.Proofs.Ythiemglckmociaa.part (fun k => r (k + 2 + (n - 1))) (n - 2)) (n - 2 + 1) 0 = wsum (fun i => sc 2 (r (i + (n - 1)))) n (mid2 (r (0 + (n - 1))) (r (2 + (n - 1)))) + 1 := hsum
  have l1 := h1.lam01
  have l2 := hq.lam01
  have hsame : lam (Go.Proofs.Ythiemglckmociaa.part (fun k => r (k + (n - 1))) 2) (2 + 1) 0 = lam (fun k => r (k + (n - 1))) n 0 := by
    refine same_sign l1 l2 x2 x1 ?_
    rcases Int.lt_trichotomy (turn (r (0 + (n - 1))) (r (1 + (n - 1))) (r (2 + (n - 1)))) 0 with x | x | x
    · exact .inr ⟨x, x⟩
    · rw [x] at x2; omega
    · exact .inl ⟨x, x⟩
  omega
end
/-- Some line inside splits each plot of four corners or more. -/
theorem Simple.has_diag {p : Nat → Int × Int} {n : Nat} (h : Simple p n) (h4 : 4 ≤ n) : ∃ s m, Diag (fun k => p (k + s)) n m ∧ wsum (fun i => sc 2 (p (i + s))) n (mid2 (p (0 + s)) (p (m + s))) ≠ 0 := by
  obtain ⟨j0, hj0, _, hm0⟩ := exists_min (fun i => (p i).2) (fun _ => True) n ⟨0, by omega, trivial⟩
  obtain ⟨j, hj, hj2, hm⟩ := exists_min (fun i => -(p i).1) (fun i => (p i).2 = (p j0).2) n ⟨j0, hj0, rfl⟩
  have hr := h.shift j
  have hlow : Low (fun k => p (k + j)) n := by
    intro i hi hi0
    show (p (0 + j)).2 < (p (i + j)).2 ∨ (p (0 + j)).2 = (p (i + j)).2 ∧ (p (i + j)).1 < (p (0 + j)).1
    rw [Nat.zero_add, ← h.mod (i + j)]
    have hlt : (i + j) % n < n := Nat.mod_lt _ (by omega)
    have a1 := hm0 _ hlt trivial
    by_cases e : (p ((i + j) % n)).2 = (p j0).2
    · right
      have a2 := hm _ hlt e
      refine ⟨by omega, ?_⟩
      have hne : p ((i + j) % n) ≠ p j := fun e2 => by
        have := h.inj _ _ hlt hj e2
        have : (i + j) % n ≠ j := by
          rcases Nat.lt_or_ge (i + j) n with x | x
          · rw [Nat.mod_eq_of_lt x]; omega
          · rw [show i + j = (i + j - n) + n by omega, Nat.add_mod_right, Nat.mod_eq_of_lt (by omega)]; omega
        omega
      have : (p ((i + j) % n)).1 ≠ (p j).1 := fun e2 => hne (Prod.ext e2 (by omega))
      omega
    · left; omega
  have hX : Lowest (fun k => p (k + (n - 1) + j)) n := by
    intro i hi hi1
    show (p (1 + (n - 1) + j)).2 < (p (i + (n - 1) + j)).2 ∨ (p (1 + (n - 1) + j)).2 = (p (i + (n - 1) + j)).2 ∧ (p (i + (n - 1) + j)).1 < (p (1 + (n - 1) + j)).1
    have e1 : p (1 + (n - 1) + j) = p (0 + j) := by rw [show 1 + (n - 1) + j = (0 + j) + n by omega, h.per]
    rw [e1]
    by_cases c0 : i = 0
    · subst c0
      rw [show 0 + (n - 1) + j = n - 1 + j by omega]
      exact hlow (n - 1) (by omega) (by omega)
    · have e2 : p (i + (n - 1) + j) = p (i - 1 + j) := by rw [show i + (n - 1) + j = (i - 1 + j) + n by omega, h.per]
      rw [e2]
      exact hlow (i - 1) (by omega) (by omega)
  have hext := (hr.shift (n - 1)).ext hX
  have f0 : p (0 + (n - 1) + j) = p (n - 1 + j) := by rw [Nat.zero_add]
  have f1 : p (1 + (n - 1) + j) = p (0 + j) := by rw [show 1 + (n - 1) + j = (0 + j) + n by omega, h.per]
  have f2 : p (2 + (n - 1) + j) = p (1 + j) := by rw [show 2 + (n - 1) + j = (1 + j) + n by omega, h.per]
  have hext : 0 < (2 * lam (fun k => p (k + (n - 1) + j)) n 0 - 1) * turn (p (0 + (n - 1) + j)) (p (1 + (n - 1) + j)) (p (2 + (n - 1) + j)) := hext
  rw [f0, f1, f2] at hext
  obtain ⟨a, c, hw⟩ : ∃ a c, Wedge (fun k => p (k + j)) n a c := by
    rcases Int.lt_trichotomy (turn (p (n - 1 + j)) (p (0 + j)) (p (1 + j))) 0 with x | x | x
    · exact ⟨p (n - 1 + j), p (1 + j), hr, .inr ⟨rfl, rfl⟩, by show 0 < turn _ _ (p (0 + j)); unfold turn at x ⊢; grind⟩
    · rw [x, Int.mul_zero] at hext; omega
    · exact ⟨p (1 + j), p (n - 1 + j), hr, .inl ⟨rfl, rfl⟩, by show 0 < turn _ _ (p (0 + j)); unfold turn at x ⊢; grind⟩
  by_cases hex : ∃ i, 2 ≤ i ∧ i + 2 ≤ n ∧ inT a (p (0 + j)) c (p (i + j))
  · obtain ⟨i, hi1, hi2, hi3⟩ := hex
    obtain ⟨m, hm1, ⟨hm2, hm3, hm4⟩, hm5⟩ := exists_min (fun i => -(wB a (p (0 + j)) c (p (i + j)))) (fun i => 2 ≤ i ∧ i + 2 ≤ n ∧ inT a (p (0 + j)) c (p (i + j))) n ⟨i, by omega, hi1, hi2, hi3⟩
    have ht : Wedge.Top (fun k => p (k + j)) n a c m := ⟨hm2, hm3, hm4, fun i g1 g2 g3 => by have := hm5 i (by omega) ⟨g1, g2, g3⟩; show wB a (p (0 + j)) c (p (i + j)) ≤ wB a (p (0 + j)) c (p (m + j)); omega⟩
    exact ⟨j, m, hw.diag ht, hw.inside hlow ht⟩
  · have hno : ∀ i, 2 ≤ i → i + 2 ≤ n → ¬ inT a (p (0 + j)) c (p (i + j)) := fun i g1 g2 g3 => hex ⟨i, g1, g2, g3⟩
    have d := hw.base h4 hno
    have di := hw.base_inside hlow h4 hno
    refine ⟨n - 1 + j, 2, ?_, ?_⟩
    · have : (fun k => p (k + (n - 1 + j))) = fun k => p (k + (n - 1) + j) := funext fun k => by rw [Nat.add_assoc]
      rw [this]; exact d
    · have : (fun i => sc 2 (p (i + (n - 1 + j)))) = fun k => sc 2 (p (k + (n - 1) + j)) := funext fun k => by rw [Nat.add_assoc]
      rw [this, ← Nat.add_assoc, ← Nat.add_assoc]; exact di
end Go.Proofs.Ythiemglckmociaa
