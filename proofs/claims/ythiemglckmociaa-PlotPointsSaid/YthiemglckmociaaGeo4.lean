/- Plain geometry of plots, fourth part: a plot split at two corners. No program in sight. No conditions. -/
import Derived.Test.YthiemglckmociaaGeo3
namespace Go.Proofs.Ythiemglckmociaa
/-- The corners from the first one to corner m. -/
def part (p : Nat → Int × Int) (m : Nat) (k : Nat) : Int × Int := p (k % (m + 1))
/-- The line from the first corner to corner m touches no side but at its ends. -/
structure Diag (p : Nat → Int × Int) (n m : Nat) : Prop where
  lo : 2 ≤ m
  hi : m + 2 ≤ n
  s0 : ¬ (turn (p m) (p 0) (p 1) = 0 ∧ 0 < dot (p 0) (p m) (p 1))
  s1 : ¬ (turn (p (m - 1)) (p m) (p 0) = 0 ∧ 0 < dot (p m) (p (m - 1)) (p 0))
  t0 : ¬ (turn (p 0) (p m) (p (m + 1)) = 0 ∧ 0 < dot (p m) (p 0) (p (m + 1)))
  t1 : ¬ (turn (p (n - 1)) (p 0) (p m) = 0 ∧ 0 < dot (p 0) (p (n - 1)) (p m))
  free : ∀ k, k < n → k ≠ 0 → k + 1 ≠ m → k ≠ m → k + 1 ≠ n → apart (p 0) (p m) (p k) (p (k + 1))
theorem part_lt {p : Nat → Int × Int} {m k : Nat} (h : k ≤ m) : part p m k = p k := by unfold part; rw [Nat.mod_eq_of_lt (by omega)]
theorem part_end (p : Nat → Int × Int) (m : Nat) : part p m (m + 1) = p 0 := by unfold part; rw [Nat.mod_self]
theorem part_end2 {p : Nat → Int × Int} {m : Nat} (h : 1 ≤ m) : part p m (m + 2) = p 1 := by
  unfold part; rw [show m + 2 = 1 + (m + 1) by omega, Nat.add_mod_right, Nat.mod_eq_of_lt (by omega)]
theorem part_mod (p : Nat → Int × Int) (m i c : Nat) : part p m (i % (m + 1) + c) = part p m (i + c) := by unfold part; rw [Nat.mod_add_mod]
theorem Simple.per1 {p : Nat → Int × Int} {n : Nat} (h : Simple p n) : p n = p 0 := by have := h.per 0; rwa [Nat.zero_add] at this
theorem Diag.part {p : Nat → Int × Int} {n m : Nat} (h : Simple p n) (d : Diag p n m) : Simple (part p m) (m + 1) := by
  have lo := d.lo; have hi := d.hi
  refine ⟨by omega, fun i => by unfold Go.Proofs.Ythiemglckmociaa.part; rw [Nat.add_mod_right], ?_, ?_, ?_⟩
  · intro i j hi' hj e
    rw [part_lt (by omega), part_lt (by omega)] at e
    exact h.inj i j (by omega) (by omega) e
  · intro i
    have hm : i % (m + 1) < m + 1 := Nat.mod_lt _ (by omega)
    have e0 : Go.Proofs.Ythiemglckmociaa.part p m (i % (m + 1)) = Go.Proofs.Ythiemglckmociaa.part p m i := part_mod p m i 0
    rw [← part_mod p m i 1, ← part_mod p m i 2, ← e0]
    generalize i % (m + 1) = r at hm
    by_cases c1 : r + 2 ≤ m
    · rw [part_lt (by omega), part_lt (by omega), part_lt c1]; exact h.spike r
    · by_cases c2 : r = m
      · subst c2
        rw [part_lt (Nat.le_refl _), part_end, part_end2 (by omega)]; exact d.s0
      · have : r = m - 1 := by omega
        subst this
        rw [part_lt (by omega), part_lt (by omega), show m - 1 + 2 = m + 1 by omega, part_end, show m - 1 + 1 = m by omega]; exact d.s1
  · have key : ∀ j, 0 < j → j + 1 < m → apart (p m) (p 0) (p j) (p (j + 1)) := fun j h0 h1 =>
      apart_flip (d.free j (by omega) (by omega) (by omega) (by omega) (by omega))
    intro i j hi' hj hji h1 h2
    by_cases ci : i = m
    · subst ci
      rw [Nat.mod_self] at h2
      have hjm : j < i := by omega
      rw [Nat.mod_eq_of_lt (by omega)] at h1
      rw [part_lt (Nat.le_refl _), part_end, part_lt (by omega), part_lt (by omega)]
      exact key j (by omega) (by omega)
    · by_cases cj : j = m
      · subst cj
        rw [Nat.mod_self] at h1
        rw [Nat.mod_eq_of_lt (by omega)] at h2
        rw [part_lt (Nat.le_refl _), part_end, part_lt (by omega), part_lt (by omega)]
        exact apart_symm (key i (by omega) (by omega))
      · rw [Nat.mod_eq_of_lt (by omega)] at h1 h2
        rw [part_lt (by omega), part_lt (by omega), part_lt (by omega), part_lt (by omega)]
        refine h.free i j (by omega) (by omega) hji ?_ ?_
        · rw [Nat.mod_eq_of_lt (by omega)]; exact h1
        · rw [Nat.mod_eq_of_lt (by omega)]; exact h2
/-- The same line, seen from its other end. -/
theorem Diag.swap {p : Nat → Int × Int} {n m : Nat} (h : Simple p n) (d : Diag p n m) : Diag (fun k => p (k + m)) n (n - m) := by
  have lo := d.lo; have hi := d.hi
  have e0 : p (n - m + m) = p 0 := by rw [show n - m + m = n by omega]; exact h.per1
  have e1 : p (n - m + 1 + m) = p 1 := by rw [show n - m + 1 + m = 1 + n by omega]; exact h.per 1
  have e2 : p (n - 1 + m) = p (m - 1) := by rw [show n - 1 + m = (m - 1) + n by omega]; exact h.per _
  have e3 : p (n - m - 1 + m) = p (n - 1) := by rw [show n - m - 1 + m = n - 1 by omega]
  refine ⟨by omega, by omega, ?_, ?_, ?_, ?_, ?_⟩
  · simp only [e0, Nat.zero_add]; rw [show 1 + m = m + 1 by omega]; exact d.t0
  · simp only [e0, e3, Nat.zero_add]; exact d.t1
  · simp only [e0, e1, Nat.zero_add]; exact d.s0
  · simp only [e0, e2, Nat.zero_add]; exact d.s1
  · intro k hk h1 h2 h3 h4
    simp only [e0, Nat.zero_add]
    refine apart_flip ?_
    by_cases c : k + m < n
    · rw [show k + 1 + m = k + m + 1 by omega]
      exact d.free (k + m) c (by omega) (by omega) (by omega) (by omega)
    · have f1 : p (k + m) = p (k + m - n) := by
        have := h.per (k + m - n)
        rwa [show k + m - n + n = k + m by omega] at this
      have f2 : p (k + 1 + m) = p (k + m - n + 1) := by
        have := h.per (k + m - n + 1)
        rwa [show k + m - n + 1 + n = k + 1 + m by omega] at this
      rw [f1, f2]
      exact d.free (k + m - n) (by omega) (by omega) (by omega) (by omega) (by omega)
/-- Sums over the border are sums over both parts' borders, if what the line gives one way is taken back the other way. -/
theorem part_sum {p : Nat → Int × Int} {n m : Nat} (hper : p n = p 0) (hm : m ≤ n) (f : Int × Int → Int × Int → Int) (hf : ∀ a b, f b a = - f a b) :
    sumN (fun i => f (p i) (p (i + 1))) n = sumN (fun i => f (part p m i) (part p m (i + 1))) (m + 1) +
      sumN (fun i => f (part (fun k => p (k + m)) (n - m) i) (part (fun k => p (k + m)) (n - m) (i + 1))) (n - m + 1) := by
  have e1 : sumN (fun i => f (part p m i) (part p m (i + 1))) (m + 1) = sumN (fun i => f (p i) (p (i + 1))) m + f (p m) (p 0) := by
    rw [sumN, part_lt (Nat.le_refl _), part_end]
    congr 1
    exact sumN_congr fun i hi => by rw [part_lt (by omega), part_lt (by omega)]
  have e2 : sumN (fun i => f (part (fun k => p (k + m)) (n - m) i) (part (fun k => p (k + m)) (n - m) (i + 1))) (n - m + 1) = sumN (fun i => f (p (m + i)) (p (m + i + 1))) (n - m) + f (p 0) (p m) := by
    rw [sumN, part_lt (Nat.le_refl _), part_end]
    show _ + f (p (n - m + m)) (p (0 + m)) = _
    rw [Nat.zero_add, show n - m + m = n by omega, hper]
    congr 1
    refine sumN_congr fun i hi => ?_
    rw [part_lt (by omega), part_lt (by omega)]
    show f (p (i + m)) (p (i + 1 + m)) = _
    rw [show i + m = m + i by omega, show i + 1 + m = m + i + 1 by omega]
  rw [e1, e2, hf (p 0) (p m)]
  have := sumN_split (fun i => f (p i) (p (i + 1))) m (n - m)
  rw [show m + (n - m) = n by omega] at this
  rw [this]; omega
theorem wsum_parts {p : Nat → Int × Int} {n m : Nat} (hper : p n = p 0) (hm : m ≤ n) (x : Int × Int) :
    wsum p n x = wsum (part p m) (m + 1) x + wsum (part (fun k => p (k + m)) (n - m)) (n - m + 1) x :=
  part_sum hper hm (fun a b => cr x a b) (fun a b => cr_swap x a b)
theorem area_parts {p : Nat → Int × Int} {n m : Nat} (hper : p n = p 0) (hm : m ≤ n) :
    area p n = area (part p m) (m + 1) + area (part (fun k => p (k + m)) (n - m)) (n - m + 1) :=
  part_sum hper hm (fun a b => a.1 * b.2 - b.1 * a.2) (fun a b => by omega)
theorem sc_part (k : Int) (p : Nat → Int × Int) (m : Nat) : (fun i => sc k (part p m i)) = part (fun i => sc k (p i)) m := rfl
theorem up_rev {a b : Int × Int} (h : a ≠ b) : up a b + up b a = 1 := by
  have : ¬ (a.1 = b.1 ∧ a.2 = b.2) := fun e => h (Prod.ext e.1 e.2)
  unfold up
  split <;> split <;> omega
/-- The middle of the line between two corners, with everything twice as large. -/
def mid2 (a b : Int × Int) : Int × Int := (a.1 + b.1, a.2 + b.2)
theorem mid2_near (a b : Int × Int) : mid2 a b = near 2 b a := by unfold mid2 near; exact Prod.ext (by simp only; omega) (by simp only; omega)
theorem mid2_swap (a b : Int × Int) : mid2 a b = mid2 b a := by unfold mid2; exact Prod.ext (by simp only; omega) (by simp only; omega)
/-- What the parts' directions tell of the middle of the line. -/
theorem Diag.lam_sum {p : Nat → Int × Int} {n m : Nat} (h : Simple p n) (d : Diag p n m) :
    lam (Go.Proofs.Ythiemglckmociaa.part p m) (m + 1) 0 + lam (Go.Proofs.Ythiemglckmociaa.part (fun k => p (k + m)) (n - m)) (n - m + 1) 0 = wsum (fun i => sc 2 (p i)) n (mid2 (p 0) (p m)) + 1 := by
  have lo := d.lo; have hi := d.hi
  have hl := d.part h
  have hs : Simple (fun k => p (k + m)) n := h.shift m
  have hr := (d.swap h).part hs
  have hne : p 0 ≠ p m := fun e => by have := h.inj 0 m (by omega) (by omega) e; omega
  have e1 := hl.lam_eq m (k := 2) (by decide) (x := mid2 (p 0) (p m)) (by rw [part_lt (Nat.le_refl _), part_end, mid2_swap, mid2_near]; exact mid_inn fun e => hne e.symm)
  have hpn : p n = p 0 := h.per1
  have e2 := hr.lam_eq (n - m) (k := 2) (by decide) (x := mid2 (p 0) (p m)) (by
    rw [part_lt (Nat.le_refl _), part_end]
    show inn (sc 2 (p (n - m + m))) (sc 2 (p (0 + m))) _
    rw [Nat.zero_add, show n - m + m = n by omega, hpn, mid2_near]
    exact mid_inn hne)
  have l1 := hl.lam_all m
  have l2 := hr.lam_all (n - m)
  rw [part_lt (Nat.le_refl _), part_end] at e1
  rw [part_lt (Nat.le_refl _), part_end] at e2
  rw [Nat.zero_add, show n - m + m = n by omega, hpn] at e2
  have hw := wsum_parts (p := fun i => sc 2 (p i)) (n := n) (m := m) (by simp only [hpn]) (by omega) (mid2 (p 0) (p m))
  have hu := up_rev hne
  rw [sc_part] at e1 e2
  have hfe : (fun i => sc 2 ((fun k => p (k + m)) i)) = fun k => sc 2 (p (k + m)) := rfl
  rw [hfe] at e2
  omega
/-- A line inside: both parts go round as the whole does. -/
theorem Diag.lam_same {p : Nat → Int × Int} {n m : Nat} (h : Simple p n) (d : Diag p n m) (hc : wsum (fun i => sc 2 (p i)) n (mid2 (p 0) (p m)) ≠ 0) :
    lam (Go.Proofs.Ythiemglckmociaa.part p m) (m + 1) 0 = lam p n 0 ∧ lam (Go.Proofs.Ythiemglckmociaa.part (fun k => p (k + m)) (n - m)) (n - m + 1) 0 = lam p n 0 := by
  have hs := d.lam_sum h
  have hl := (d.part h).lam01
  have hr := ((d.swap h).part (h.shift m)).lam01
  have hp := h.lam01
  have h2 := (h.scale (show (0 : Int) < 2 by decide)).around_any (mid2 (p 0) (p m))
  rw [lam_scale h (by decide)] at h2
  omega
/-- Twice the area, whichever way the corners turn. -/
theorem abs_area {p : Nat → Int × Int} {n : Nat} (h : Simple p n) : max (area p n) (-(area p n)) = (2 * lam p n 0 - 1) * area p n := by
  have h1 := h.area_pos
  rcases h.lam01 with c | c
  · rw [c] at h1 ⊢; omega
  · rw [c] at h1 ⊢; omega
theorem Diag.area_abs {p : Nat → Int × Int} {n m : Nat} (h : Simple p n) (d : Diag p n m) (hc : wsum (fun i => sc 2 (p i)) n (mid2 (p 0) (p m)) ≠ 0) :
    max (area p n) (-(area p n)) = max (area (Go.Proofs.Ythiemglckmociaa.part p m) (m + 1)) (-(area (Go.Proofs.Ythiemglckmociaa.part p m) (m + 1))) +
      max (area (Go.Proofs.Ythiemglckmociaa.part (fun k => p (k + m)) (n - m)) (n - m + 1)) (-(area (Go.Proofs.Ythiemglckmociaa.part (fun k => p (k + m)) (n - m)) (n - m + 1))) := by
  have hi := d.hi
  obtain ⟨h1, h2⟩ := d.lam_same h hc
  rw [abs_area h, abs_area (d.part h), abs_area ((d.swap h).part (h.shift m)), h1, h2, area_parts (m := m) h.per1 (by omega), Int.mul_add]
/-- No part goes round a point inside a side of the other part, seen however large. -/
theorem Diag.side_out {p : Nat → Int × Int} {n m : Nat} (h : Simple p n) (d : Diag p n m) (hc : wsum (fun i => sc 2 (p i)) n (mid2 (p 0) (p m)) ≠ 0) {k : Int} (hk : 0 < k) {i : Nat} (h1 : m ≤ i) (h2 : i < n) {x : Int × Int}
    (hx : inn (sc k (p i)) (sc k (p (i + 1))) x) : wsum (fun i => sc k (Go.Proofs.Ythiemglckmociaa.part p m i)) (m + 1) x = 0 := by
  have hi := d.hi
  obtain ⟨e1, e2⟩ := d.lam_same h hc
  have hr := (d.swap h).part (h.shift m)
  have a1 := h.lam_eq i hk hx
  have b0 : Go.Proofs.Ythiemglckmociaa.part (fun k => p (k + m)) (n - m) (i - m) = p i := by
    rw [part_lt (by omega)]; show p (i - m + m) = p i; rw [show i - m + m = i by omega]
  have b1 : Go.Proofs.Ythiemglckmociaa.part (fun k => p (k + m)) (n - m) (i - m + 1) = p (i + 1) := by
    rw [part_lt (by omega)]; show p (i - m + 1 + m) = p (i + 1); rw [show i - m + 1 + m = i + 1 by omega]
  have a2 := hr.lam_eq (i - m) hk (x := x) (by rw [b0, b1]; exact hx)
  rw [b0, b1] at a2
  have l1 := h.lam_all i
  have l2 := hr.lam_all (i - m)
  have hw := wsum_parts (p := fun i => sc k (p i)) (n := n) (m := m) (by simp only [h.per1]) (by omega) x
  rw [sc_part]
  rw [sc_part] at a2
  have hfe : (fun i => sc k ((fun k => p (k + m)) i)) = fun j => sc k (p (j + m)) := rfl
  rw [hfe] at a2
  omega
end Go.Proofs.Ythiemglckmociaa
