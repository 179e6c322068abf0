/- Plain geometry of plots, eleventh part: what the points tell of the area. No program in sight. No conditions. -/
import Derived.Test.YthiemglckmociaaGeo10
namespace Go.Proofs.Ythiemglckmociaa
/-- With a line inside, no corner of one part is gone round by the other part. -/
theorem Diag.corner_out {p : Nat → Int × Int} {n m : Nat} (h : Simple p n) (d : Diag p n m) (hc : wsum (fun i => sc 2 (p i)) n (mid2 (p 0) (p m)) ≠ 0) {i : Nat} (h1 : m < i) (h2 : i < n) : wsum (Go.Proofs.Ythiemglckmociaa.part p m) (m + 1) (p i) = 0 := by
  have lo := d.lo; have hi := d.hi
  have k2 : (0 : Int) < 2 := by decide
  have hx := mid_inn (h.ne_next i)
  have hz := d.side_out h hc k2 (show m ≤ i by omega) h2 hx
  have hxl := sc_left 2 (p i) (p (i + 1))
  rw [← wsum_sc k2, wsum_free (p := fun i => sc 2 (Go.Proofs.Ythiemglckmociaa.part p m i)) (y := near 2 (p (i + 1)) (p i)) (by simp only [part_end]; rw [part_lt (by omega)])]
  · exact hz
  · intro j hj
    by_cases c : j < m
    · simp only [part_lt (show j ≤ m by omega), part_lt (show j + 1 ≤ m by omega)]
      refine (h.scale k2).side_side (k := i) (j := j) h2 (by omega) (by omega) hxl hx.1 (fun e => ⟨fun e2 => ?_, ?_⟩) (fun e => ?_)
      · have := h.inj _ _ h2 (by omega) (sc_inj k2 e2); omega
      · have : p j = p (i + 1) := by rw [← e, h.mod]
        rw [this]; exact hx.2.2
      · rw [Nat.mod_eq_of_lt (by omega)] at e; omega
    · obtain rfl : j = m := by omega
      have hr := (d.swap h).part (h.shift j)
      have b0 : Go.Proofs.Ythiemglckmociaa.part (fun k => p (k + j)) (n - j) (i - j) = p i := by
        rw [part_lt (by omega)]; show p (i - j + j) = p i; rw [show i - j + j = i by omega]
      have b1 : Go.Proofs.Ythiemglckmociaa.part (fun k => p (k + j)) (n - j) (i - j + 1) = p (i + 1) := by
        rw [part_lt (by omega)]; show p (i - j + 1 + j) = p (i + 1); rw [show i - j + 1 + j = i + 1 by omega]
      have b2 : Go.Proofs.Ythiemglckmociaa.part (fun k => p (k + j)) (n - j) (n - j) = p 0 := by
        rw [part_lt (by omega)]; show p (n - j + j) = p 0; rw [show n - j + j = n by omega, h.per1]
      have b3 : Go.Proofs.Ythiemglckmociaa.part (fun k => p (k + j)) (n - j) (n - j + 1) = p j := by
        rw [part_end]; show p (0 + j) = p j; rw [Nat.zero_add]
      have hs := (hr.scale k2).side_side (k := i - j) (j := n - j) (x := sc 2 (p i)) (y := near 2 (p (i + 1)) (p i)) (by omega) (by omega) (by omega) (by simp only [b0, b1]; exact hxl) (by simp only [b0, b1]; exact hx.1) (fun e => ?_) (fun e => ?_)
      · simp only [b2, b3] at hs
        simp only [part_end, part_lt (show j ≤ j by omega)]
        exact apart_swap hs
      · simp only [b2]
        rw [Nat.mod_eq_of_lt (by omega)] at e
        have e2 : p (i + 1) = p 0 := by rw [show i + 1 = n by omega, h.per1]
        refine ⟨fun e3 => ?_, ?_⟩
        · have := h.inj _ _ h2 (by omega) (sc_inj k2 e3); omega
        · rw [← e2]; exact hx.2.2
      · rw [Nat.mod_self] at e; omega
theorem Diag.neg {p : Nat → Int × Int} {n m : Nat} (d : Diag p n m) : Diag (fun k => neg (p k)) n m :=
  ⟨d.lo, d.hi, by simp only [turn_neg, dot_neg]; exact d.s0, by simp only [turn_neg, dot_neg]; exact d.s1, by simp only [turn_neg, dot_neg]; exact d.t0, by simp only [turn_neg, dot_neg]; exact d.t1,
    fun k h0 h1 h2 h3 h4 => apart_neg (d.free k h0 h1 h2 h3 h4)⟩
theorem Diag.mid_neg {p : Nat → Int × Int} {n m : Nat} (h : Simple p n) (d : Diag p n m) :
    wsum (fun i => sc 2 (Go.Proofs.Ythiemglckmociaa.neg (p i))) n (mid2 (Go.Proofs.Ythiemglckmociaa.neg (p 0)) (Go.Proofs.Ythiemglckmociaa.neg (p m))) = wsum (fun i => sc 2 (p i)) n (mid2 (p 0) (p m)) := by
  have e1 := d.lam_sum h
  have e2 := d.neg.lam_sum h.neg
  have f1 := (d.part h).lam_neg
  have f2 := ((d.swap h).part (h.shift m)).lam_neg
  have g1 : (fun i => Go.Proofs.Ythiemglckmociaa.neg (Go.Proofs.Ythiemglckmociaa.part p m i)) = Go.Proofs.Ythiemglckmociaa.part (fun k => Go.Proofs.Ythiemglckmociaa.neg (p k)) m := rfl
  have g2 : (fun i => Go.Proofs.Ythiemglckmociaa.neg (Go.Proofs.Ythiemglckmociaa.part (fun k => p (k + m)) (n - m) i)) = Go.Proofs.Ythiemglckmociaa.part (fun k => Go.Proofs.Ythiemglckmociaa.neg (p (k + m))) (n - m) := rfl
  rw [g1] at f1
  rw [g2] at f2
  rw [f1] at e2
  have g3 : Go.Proofs.Ythiemglckmociaa.part (fun k => (fun k => Go.Proofs.Ythiemglckmociaa.neg (p k)) (k + m)) (n - m) = Go.Proofs.Ythiemglckmociaa.part (fun k => Go.Proofs.Ythiemglckmociaa.neg (p (k + m))) (n - m) := rfl
  rw [g3, f2] at e2
  omega
/-- How often a point is gone round, counted with rays to the right and to the left. -/
def cc (p : Nat → Int × Int) (n : Nat) (x : Int × Int) : Int := wsum p n x + wsum (fun i => neg (p i)) n (neg x)
theorem cc_parts {p : Nat → Int × Int} {n m : Nat} (hper : p n = p 0) (hm : m ≤ n) (x : Int × Int) : cc p n x = cc (part p m) (m + 1) x + cc (part (fun k => p (k + m)) (n - m)) (n - m + 1) x := by
  have e1 := wsum_parts hper hm x
  have e2 := wsum_parts (p := fun i => neg (p i)) (n := n) (m := m) (by rw [hper]) hm (neg x)
  have g1 : (fun i => Go.Proofs.Ythiemglckmociaa.neg (Go.Proofs.Ythiemglckmociaa.part p m i)) = Go.Proofs.Ythiemglckmociaa.part (fun k => Go.Proofs.Ythiemglckmociaa.neg (p k)) m := rfl
  have g2 : (fun i => Go.Proofs.Ythiemglckmociaa.neg (Go.Proofs.Ythiemglckmociaa.part (fun k => p (k + m)) (n - m) i)) = Go.Proofs.Ythiemglckmociaa.part (fun k => (fun k => Go.Proofs.Ythiemglckmociaa.neg (p k)) (k + m)) (n - m) := rfl
  unfold cc
  rw [g1, g2]
  generalize wsum (Go.Proofs.Ythiemglckmociaa.part (fun k => (fun k => Go.Proofs.Ythiemglckmociaa.neg (p k)) (k + m)) (n - m)) (n - m + 1) (Go.Proofs.Ythiemglckmociaa.neg x) = z at *
  omega
theorem Simple.cc_shift {p : Nat → Int × Int} {n : Nat} (h : Simple p n) (s : Nat) (x : Int × Int) : cc (fun k => p (k + s)) n x = cc p n x := by
  have e1 := h.wsum_shift s x
  have e2 := h.neg.wsum_shift s (Go.Proofs.Ythiemglckmociaa.neg x)
  unfold cc
  rw [e1]
  have g : (fun i => Go.Proofs.Ythiemglckmociaa.neg ((fun k => p (k + s)) i)) = fun i => (fun k => Go.Proofs.Ythiemglckmociaa.neg (p k)) (i + s) := rfl
  rw [g, e2]
theorem Diag.half {p : Nat → Int × Int} {n m : Nat} (h : Simple p n) (d : Diag p n m) (hc : wsum (fun i => sc 2 (p i)) n (mid2 (p 0) (p m)) ≠ 0) :
    sumN (fun i => cc (Go.Proofs.Ythiemglckmociaa.part p m) (m + 1) (p i)) n = sumN (fun i => cc (Go.Proofs.Ythiemglckmociaa.part p m) (m + 1) (Go.Proofs.Ythiemglckmociaa.part p m i)) (m + 1) := by
  have lo := d.lo; have hi := d.hi
  have e := sumN_split (fun i => cc (Go.Proofs.Ythiemglckmociaa.part p m) (m + 1) (p i)) (m + 1) (n - (m + 1))
  rw [show m + 1 + (n - (m + 1)) = n by omega] at e
  have hz : sumN (fun i => cc (Go.Proofs.Ythiemglckmociaa.part p m) (m + 1) (p (m + 1 + i))) (n - (m + 1)) = 0 := sumN_zero fun i hi => by
    have e1 := d.corner_out h hc (i := m + 1 + i) (by omega) (by omega)
    have e2 := d.neg.corner_out h.neg (by rw [d.mid_neg h]; exact hc) (i := m + 1 + i) (by omega) (by omega)
    have g1 : (fun i => Go.Proofs.Ythiemglckmociaa.neg (Go.Proofs.Ythiemglckmociaa.part p m i)) = Go.Proofs.Ythiemglckmociaa.part (fun k => Go.Proofs.Ythiemglckmociaa.neg (p k)) m := rfl
    show wsum _ _ _ + wsum _ _ _ = 0
    rw [g1, e1, e2]; rfl
  rw [hz] at e
  rw [e, Int.add_zero]
  exact sumN_congr fun i hi => by rw [part_lt (by omega)]
theorem cr_pos {x a b : Int × Int} (h : 0 < turn a b x) : cr x a b = if a.2 ≤ x.2 ∧ x.2 < b.2 then 1 else 0 := by
  unfold cr
  split
  · rw [if_pos (by omega)]
  · rw [if_neg (by omega), if_neg (by omega)]
theorem cr_nega {x a b : Int × Int} (h : turn a b x < 0) : cr x a b = if b.2 ≤ x.2 ∧ x.2 < a.2 then -1 else 0 := by
  unfold cr
  rw [if_neg (by omega)]
  split
  · rw [if_pos (by omega)]
  · rw [if_neg (by omega)]
theorem cr_end1 (a b : Int × Int) : cr a a b = 0 := cr_on (by unfold turn; grind)
theorem cr_end2 (a b : Int × Int) : cr b a b = 0 := cr_on (by unfold turn; grind)
theorem three_up {x y z : Int} (h : ¬ (x = y ∧ y = z)) : (if y ≤ x ∧ x < z then (1 : Int) else 0) + (if z ≤ y ∧ y < x then 1 else 0) + (if x ≤ z ∧ z < y then 1 else 0) +
    ((if -y ≤ -x ∧ -x < -z then (1 : Int) else 0) + (if -z ≤ -y ∧ -y < -x then 1 else 0) + (if -x ≤ -z ∧ -z < -y then 1 else 0)) = 1 := by
  split <;> split <;> split <;> split <;> split <;> split <;> omega
theorem three_down {x y z : Int} (h : ¬ (x = y ∧ y = z)) : (if z ≤ x ∧ x < y then (-1 : Int) else 0) + (if x ≤ y ∧ y < z then -1 else 0) + (if y ≤ z ∧ z < x then -1 else 0) +
    ((if -z ≤ -x ∧ -x < -y then (-1 : Int) else 0) + (if -x ≤ -y ∧ -y < -z then -1 else 0) + (if -y ≤ -z ∧ -z < -x then -1 else 0)) = -1 := by
  split <;> split <;> split <;> split <;> split <;> split <;> omega
/-- The corners of a triangle. -/
theorem tri_corners {a b c : Int × Int} : (0 < turn a b c → cr a b c + cr b c a + cr c a b + (cr (neg a) (neg b) (neg c) + cr (neg b) (neg c) (neg a) + cr (neg c) (neg a) (neg b)) = 1) ∧
    (turn a b c < 0 → cr a b c + cr b c a + cr c a b + (cr (neg a) (neg b) (neg c) + cr (neg b) (neg c) (neg a) + cr (neg c) (neg a) (neg b)) = -1) := by
  have r1 : turn b c a = turn a b c := turn_rot a b c
  have r2 : turn c a b = turn a b c := by rw [turn_rot b c a, r1]
  have hne : turn a b c ≠ 0 → ¬ (a.2 = b.2 ∧ b.2 = c.2) := fun h e => h (by unfold turn; rw [e.1, e.2]; simp)
  constructor
  · intro h
    have hn := hne (by omega)
    rw [cr_pos (x := a) (a := b) (b := c) (by omega), cr_pos (x := b) (a := c) (b := a) (by omega), cr_pos (x := c) (a := a) (b := b) (by omega),
      cr_pos (x := neg a) (by rw [turn_neg]; omega), cr_pos (x := neg b) (by rw [turn_neg]; omega), cr_pos (x := neg c) (by rw [turn_neg]; omega)]
    exact three_up hn
  · intro h
    have hn := hne (by omega)
    rw [cr_nega (x := a) (a := b) (b := c) (by omega), cr_nega (x := b) (a := c) (b := a) (by omega), cr_nega (x := c) (a := a) (b := b) (by omega),
      cr_nega (x := neg a) (by rw [turn_neg]; omega), cr_nega (x := neg b) (by rw [turn_neg]; omega), cr_nega (x := neg c) (by rw [turn_neg]; omega)]
    exact three_down hn
theorem Simple.tri_base {p : Nat → Int × Int} (h : Simple p 3) : sumN (fun i => cc p 3 (p i)) 3 = 2 * lam p 3 0 - 1 := by
  have hp : p 3 = p 0 := h.per1
  obtain ⟨t1, t2⟩ := tri_corners (a := p 0) (b := p 1) (c := p 2)
  have ha := h.area_pos
  have e : area p 3 = turn (p 0) (p 1) (p 2) := by
    unfold area
    simp only [sumN, hp, Nat.zero_add, Nat.reduceAdd]
    unfold turn; grind
  rw [e] at ha
  have hs : sumN (fun i => cc p 3 (p i)) 3 = cr (p 0) (p 1) (p 2) + cr (p 1) (p 2) (p 0) + cr (p 2) (p 0) (p 1) + (cr (Go.Proofs.Ythiemglckmociaa.neg (p 0)) (Go.Proofs.Ythiemglckmociaa.neg (p 1)) (Go.Proofs.Ythiemglckmociaa.neg (p 2)) + cr (Go.Proofs.Ythiemglckmociaa.neg (p 1)) (Go.Proofs.Ythiemglckmociaa.neg (p 2)) (Go.Proofs.Ythiemglckmociaa.neg (p 0)) + cr (Go.Proofs.Ythiemglckmociaa.neg (p 2)) (Go.Proofs.Ythiemglckmociaa.neg (p 0)) (Go.Proofs.Ythiemglckmociaa.neg (p 1))) := by
    simp only [sumN, cc, wsum, hp, Nat.zero_add, Nat.reduceAdd, cr_end1, cr_end2]
    omega
  rw [hs]
  rcases h.lam01 with l | l <;> rw [l] at ha ⊢
  · rw [t2 (by omega)]; rfl
  · rw [t1 (by omega)]; rfl
/-- What the corners of a plot count together. -/
theorem corners : ∀ (n : Nat) (p : Nat → Int × Int), Simple p n → sumN (fun i => cc p n (p i)) n = (2 * lam p n 0 - 1) * ((n : Int) - 2)
  | n, p, h => by
    have h3 := h.three
    by_cases c : n = 3
    · subst c
      rw [h.tri_base]; omega
    · obtain ⟨s, m, d, hc⟩ := h.has_diag (by omega)
      have lo := d.lo; have hi := d.hi
      have hq := h.shift s
      have hc : wsum (fun i => sc 2 ((fun k => p (k + s)) i)) n (mid2 ((fun k => p (k + s)) 0) ((fun k => p (k + s)) m)) ≠ 0 := hc
      rw [← lam_shift h s]
      have e0 : sumN (fun i => cc p n (p i)) n = sumN (fun i => cc (fun k => p (k + s)) n (p (i + s))) n := by
        rw [← sumN_shift (f := fun i => cc p n (p i)) (n := n) (fun i => by simp only [h.per]) s]
        exact sumN_congr fun i _ => (h.cc_shift s _).symm
      rw [e0]
      generalize hqd : (fun k => p (k + s)) = q at *
      have e1 : sumN (fun i => cc q n (p (i + s))) n = sumN (fun i => cc q n (q i)) n := by rw [← hqd]
      rw [e1]
      have e2 : sumN (fun i => cc q n (q i)) n = sumN (fun i => cc (Go.Proofs.Ythiemglckmociaa.part q m) (m + 1) (q i)) n + sumN (fun i => cc (Go.Proofs.Ythiemglckmociaa.part (fun k => q (k + m)) (n - m)) (n - m + 1) (q i)) n := by
        rw [← sumN_add]
        exact sumN_congr fun i _ => cc_parts hq.per1 (by omega) _
      have e3 := sumN_shift (f := fun i => cc (Go.Proofs.Ythiemglckmociaa.part (fun k => q (k + m)) (n - m)) (n - m + 1) (q i)) (n := n) (fun i => by simp only [hq.per]) m
      have hc2 : wsum (fun i => sc 2 (q (i + m))) n (mid2 (q (0 + m)) (q (n - m + m))) ≠ 0 := by
        rw [Nat.zero_add, show n - m + m = n by omega, hq.per1, mid2_swap]
        have := (hq.scale (show (0 : Int) < 2 by decide)).wsum_shift m (mid2 (q 0) (q m))
        rw [this]; exact hc
      have f1 := d.half hq hc
      have f2 := (d.swap hq).half (hq.shift m) hc2
      have i1 := corners (m + 1) (Go.Proofs.Ythiemglckmociaa.part q m) (d.part hq)
      have i2 := corners (n - m + 1) (Go.Proofs.Ythiemglckmociaa.part (fun k => q (k + m)) (n - m)) ((d.swap hq).part (hq.shift m))
      obtain ⟨l1, l2⟩ := d.lam_same hq hc
      rw [e2, ← e3, f1, f2, i1, i2, l1, l2, ← Int.mul_add]
      congr 1
      omega
  termination_by n => n
end Go.Proofs.Ythiemglckmociaa
