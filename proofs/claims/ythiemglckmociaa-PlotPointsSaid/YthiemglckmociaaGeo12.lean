/- Plain geometry of plots, twelfth part: points inside, points on the border, and the area. No program in sight. No conditions. -/
import Derived.Test.YthiemglckmociaaGeo11
namespace Go.Proofs.Ythiemglckmociaa
theorem sumB_point {B : Nat} {t : Int} (K : Int) (h1 : -B ≤ t) (h2 : t ≤ B) : sumB B (fun x => if x = t then K else 0) = K := by
  unfold sumB
  rw [sumN_one (i := (t + B).toNat) (by omega) (fun j hj hne => if_neg (by omega))]
  exact if_pos (by omega)
theorem sumB_zero {B : Nat} : sumB B (fun _ => 0) = 0 := sumN_zero fun _ _ => rfl
theorem sum2_point {B : Nat} {a : Int × Int} (K : Int) (h : (-B ≤ a.1 ∧ a.1 ≤ B) ∧ -B ≤ a.2 ∧ a.2 ≤ B) : sum2 B (fun x => if x = a then K else 0) = K := by
  unfold sum2
  have e : (fun y => sumB B fun x => if ((x, y) : Int × Int) = a then K else 0) = fun y => if y = a.2 then K else 0 := funext fun y => by
    by_cases c : y = a.2
    · rw [if_pos c]
      have e2 : (fun x => if ((x, y) : Int × Int) = a then K else 0) = fun x => if x = a.1 then K else 0 := funext fun x => by
        by_cases c2 : x = a.1
        · rw [if_pos c2, if_pos (Prod.ext c2 c)]
        · rw [if_neg c2, if_neg fun e => c2 (by rw [← e])]
      rw [e2]; exact sumB_point K h.1.1 h.1.2
    · rw [if_neg c]
      have e2 : (fun x => if ((x, y) : Int × Int) = a then K else 0) = fun _ => 0 := funext fun x => if_neg fun e => c (by rw [← e])
      rw [e2]; exact sumB_zero
  rw [e]; exact sumB_point K h.2.1 h.2.2
theorem sumB_mul {B : Nat} (c : Int) (f : Int → Int) : sumB B (fun x => c * f x) = c * sumB B f := sumN_mul c _ _
theorem sum2_mul {B : Nat} (c : Int) (f : Int × Int → Int) : sum2 B (fun x => c * f x) = c * sum2 B f := by
  unfold sum2
  rw [← sumB_mul]; congr 1; funext y; exact sumB_mul c _
/-- Off the border. -/
theorem cc_off {p : Nat → Int × Int} {n : Nat} (hper : p n = p 0) {x : Int × Int} (hx : ∀ i, i < n → onB (p i) (p (i + 1)) x = false) : cc p n x = 2 * wsum p n x := by
  have e : sumN (fun j => cr x (p j) (p (j + 1)) - cr (neg x) (neg (p j)) (neg (p (j + 1)))) n = sumN (fun j => up x (p (j + 1)) - up x (p j)) n := sumN_congr fun j hj => cr_both (hx j hj)
  rw [sumN_sub, sumN_tele (fun j => up x (p j)), hper] at e
  show sumN (fun j => cr x (p j) (p (j + 1))) n + sumN (fun j => cr (neg x) (neg (p j)) (neg (p (j + 1)))) n = 2 * sumN (fun j => cr x (p j) (p (j + 1))) n
  omega
/-- Inside a side. -/
theorem Simple.cc_side {p : Nat → Int × Int} {n : Nat} (h : Simple p n) {i : Nat} (hi : i < n) {x : Int × Int} (hx : inn (p i) (p (i + 1)) x) : cc p n x = 2 * lam p n 0 - 1 := by
  have e1 := h.inside_both hi hx
  have e2 := h.lam_eq i (show (0 : Int) < 1 by decide) (x := x) (by rw [sc_one, sc_one]; exact hx)
  simp only [sc_one] at e2
  have e3 := h.lam_all i
  have e4 : wsum (fun i => p i) n x = wsum p n x := rfl
  unfold cc
  omega
theorem sumN_at {n : Nat} {p : Nat → Int × Int} (K : Nat → Int) {x : Int × Int} (hno : ∀ i, i < n → x ≠ p i) : sumN (fun i => if x = p i then K i else 0) n = 0 := sumN_zero fun i hi => if_neg (hno i hi)
/-- The points inside and on the border tell the area. -/
theorem pick {p : Nat → Int × Int} {n : Nat} (h : Simple p n) {B : Nat} (hb : ∀ i, (-B ≤ (p i).1 ∧ (p i).1 ≤ B) ∧ -B ≤ (p i).2 ∧ (p i).2 ≤ B) {f g : Int × Int → Int}
    (hon : ∀ x i, i < n → onB (p i) (p (i + 1)) x = true → f x = 1 ∧ g x = 0)
    (hoff : ∀ x, (∀ i, i < n → onB (p i) (p (i + 1)) x = false) → f x = 0 ∧ g x = if wsum p n x = 0 then 0 else 1) :
    (2 * lam p n 0 - 1) * area p n = 2 * sum2 B g + sum2 B f - 2 := by
  have h3 := h.three
  have hl := h.lam01
  generalize he : 2 * lam p n 0 - 1 = e
  have hee : e * e = 1 := by rcases hl with l | l <;> rw [l] at he <;> rw [← he] <;> rfl
  have key : ∀ x, e * cc p n x = (2 * g x + f x) + sumN (fun i => if x = p i then e * cc p n (p i) - 1 else 0) n := fun x => by
    by_cases c : ∃ i, i < n ∧ onB (p i) (p (i + 1)) x = true
    · obtain ⟨i, hi, ho⟩ := c
      obtain ⟨e1, e2⟩ := hon x i hi ho
      rw [e1, e2]
      by_cases cc0 : ∃ j, j < n ∧ x = p j
      · obtain ⟨j, hj, hx⟩ := cc0
        rw [sumN_one hj (fun k hk hkj => if_neg fun e2 => hkj (h.inj k j hk hj (by rw [← e2, hx]))), if_pos hx, hx]; omega
      · rw [sumN_at (p := p) (fun i => e * cc p n (p i) - 1) fun j hj hx => cc0 ⟨j, hj, hx⟩]
        have hin : inn (p i) (p (i + 1)) x := ⟨ho, fun e2 => cc0 ⟨i, hi, e2⟩, fun e2 => cc0 ⟨(i + 1) % n, Nat.mod_lt _ (by omega), by rw [h.mod]; exact e2⟩⟩
        rw [h.cc_side hi hin, he, hee]; rfl
    · have ho : ∀ i, i < n → onB (p i) (p (i + 1)) x = false := fun i hi => by
        cases q : onB (p i) (p (i + 1)) x
        · rfl
        · exact absurd ⟨i, hi, q⟩ c
      obtain ⟨e1, e2⟩ := hoff x ho
      rw [e1, e2, sumN_at (p := p) (fun i => e * cc p n (p i) - 1) (fun j hj hx => by
        have := ho j hj
        rw [hx] at this
        have t := sc_left 1 (p j) (p (j + 1))
        rw [sc_one, sc_one, this] at t; cases t), cc_off h.per1 ho]
      rcases h.around ho with w | w
      · rcases hl with l | l
        · rw [w, l, if_pos rfl]; omega
        · rw [w, l, ← he, l]; rfl
      · rcases hl with l | l
        · rw [w, l, ← he, l]; rfl
        · rw [w, l, if_pos (by rfl)]; omega
  rw [← area_points h.per1 hb]
  show e * sum2 B (fun x => cc p n x) = _
  rw [← sum2_mul, show (fun x => e * cc p n x) = fun x => (2 * g x + f x) + sumN (fun i => if x = p i then e * cc p n (p i) - 1 else 0) n from funext key, sum2_add (f := fun x => 2 * g x + f x), sum2_add (f := fun x => 2 * g x), sum2_mul,
    sum2_sumN (fun i x => if x = p i then e * cc p n (p i) - 1 else 0)]
  have e1 : sumN (fun i => sum2 B (fun x => if x = p i then e * cc p n (p i) - 1 else 0)) n = sumN (fun i => e * cc p n (p i) - 1) n := sumN_congr fun i _ => sum2_point _ (hb i)
  rw [e1, sumN_sub, sumN_mul, sumN_const, corners n p h, he, ← Int.mul_assoc, hee]
  omega
/-- The points of a side without its end. -/
def half (a b x : Int × Int) : Int := if onB a b x = true ∧ x ≠ b then 1 else 0
theorem Simple.border_one {p : Nat → Int × Int} {n : Nat} (h : Simple p n) {x : Int × Int} {i : Nat} (hi : i < n) (ho : onB (p i) (p (i + 1)) x = true) : sumN (fun i => half (p i) (p (i + 1)) x) n = 1 := by
  have h3 := h.three
  have main : ∀ i, i < n → onB (p i) (p (i + 1)) x = true → x ≠ p (i + 1) → sumN (fun i => half (p i) (p (i + 1)) x) n = 1 := fun i hi ho hx => by
    rw [sumN_one (f := fun i => half (p i) (p (i + 1)) x) hi (fun j hj hij => if_neg fun q => by
      have a := h.side_side hi hj hij ho ho (fun e => by rw [← e, h.mod]; exact ⟨hx, hx⟩) (fun e => by rw [← e, h.mod]; exact ⟨q.2, q.2⟩)
      have a1 := a.1
      rw [q.1] at a1; cases a1)]
    exact if_pos ⟨ho, hx⟩
  by_cases c : x = p (i + 1)
  · have e : p ((i + 1) % n) = x := by rw [h.mod, c]
    have hlt : (i + 1) % n < n := Nat.mod_lt _ (by omega)
    refine main ((i + 1) % n) hlt ?_ ?_
    · have t := sc_left 1 (p ((i + 1) % n)) (p ((i + 1) % n + 1))
      rw [sc_one, sc_one, e] at t
      rw [e]; exact t
    · rw [← e]; exact h.ne_next _
  · exact main i hi ho c
theorem seg_step {dx dy X Y : Int} (hd : ¬ (dx = 0 ∧ dy = 0)) (h : dx * Y = dy * X) : ∃ s, (Int.gcd dx dy : Int) * X = dx * s ∧ (Int.gcd dx dy : Int) * Y = dy * s := by
  by_cases c : dx = 0
  · have hy : dy ≠ 0 := fun e => hd ⟨c, e⟩
    have hX : X = 0 := by
      rw [c, Int.zero_mul] at h
      rcases Int.mul_eq_zero.1 h.symm with e | e
      · exact absurd e hy
      · exact e
    obtain ⟨s, hs⟩ : dy ∣ (Int.gcd dx dy : Int) * Y := by rw [c, Int.gcd_zero_left]; exact Int.dvd_trans (Int.dvd_natAbs.2 (Int.dvd_refl _)) (Int.dvd_mul_right _ _)
    exact ⟨s, by rw [hX, c, Int.zero_mul, Int.mul_zero], hs⟩
  · obtain ⟨s, hs⟩ : dx ∣ (Int.gcd dx dy : Int) * X := by
      rw [Int.dvd_gcd_mul_iff_dvd_mul]; exact ⟨Y, h.symm⟩
    refine ⟨s, hs, ?_⟩
    refine Int.eq_of_mul_eq_mul_left c ?_
    have e1 : dx * ((Int.gcd dx dy : Int) * Y) = (Int.gcd dx dy : Int) * (dx * Y) := by rw [← Int.mul_assoc, Int.mul_comm dx, Int.mul_assoc]
    have e2 : (Int.gcd dx dy : Int) * (dy * X) = dy * ((Int.gcd dx dy : Int) * X) := by rw [← Int.mul_assoc, Int.mul_comm (Int.gcd dx dy : Int) dy, Int.mul_assoc]
    rw [e1, h, e2, hs, ← Int.mul_assoc, ← Int.mul_assoc, Int.mul_comm dy dx]
theorem seg_count {a b : Int × Int} (hab : a ≠ b) {B : Nat} (ha : (-B ≤ a.1 ∧ a.1 ≤ B) ∧ -B ≤ a.2 ∧ a.2 ≤ B) (hb : (-B ≤ b.1 ∧ b.1 ≤ B) ∧ -B ≤ b.2 ∧ b.2 ≤ B) :
    sum2 B (half a b) = (Int.gcd (b.1 - a.1) (b.2 - a.2) : Int) := by
  have hd : ¬ (b.1 - a.1 = 0 ∧ b.2 - a.2 = 0) := fun e => hab (Prod.ext (by omega) (by omega))
  have hg0 : Int.gcd (b.1 - a.1) (b.2 - a.2) ≠ 0 := fun e => hd (Int.gcd_eq_zero_iff.1 e)
  obtain ⟨u, hu⟩ := Int.gcd_dvd_left (b.1 - a.1) (b.2 - a.2)
  obtain ⟨v, hv⟩ := Int.gcd_dvd_right (b.1 - a.1) (b.2 - a.2)
  have hst := fun X Y => seg_step (X := X) (Y := Y) hd
  generalize hg : Int.gcd (b.1 - a.1) (b.2 - a.2) = g at *
  have gp : (0 : Int) < g := by omega
  have huv : ¬ (u = 0 ∧ v = 0) := fun e => hd ⟨by rw [hu, e.1, Int.mul_zero], by rw [hv, e.2, Int.mul_zero]⟩
  have np : 0 < u * u + v * v := by
    have q1 := sq0 u; have q2 := sq0 v
    rcases Int.lt_trichotomy u 0 with c | c | c
    · have := mnn c c; omega
    · rcases Int.lt_trichotomy v 0 with c2 | c2 | c2
      · have := mnn c2 c2; omega
      · exact absurd ⟨c, c2⟩ huv
      · have := mpp c2 c2; omega
    · have := mpp c c; omega
  have honp : ∀ s : Int, 0 ≤ s → s ≤ g → onB a b (a.1 + s * u, a.2 + s * v) = true := fun s h1 h2 => by
    refine onB_mk ?_ ?_
    · unfold turn; simp only; rw [hu, hv]; grind
    · have e : dot (a.1 + s * u, a.2 + s * v) a b = -(s * (g - s) * (u * u + v * v)) := by
        unfold dot; simp only
        rw [show b.1 - (a.1 + s * u) = (b.1 - a.1) - s * u by omega, show b.2 - (a.2 + s * v) = (b.2 - a.2) - s * v by omega, hu, hv]; grind
      rw [e]
      have := mpp0 (mpp0 h1 (show 0 ≤ g - s by omega)) (Int.le_of_lt np)
      omega
  have hend : ∀ s : Int, ((a.1 + s * u, a.2 + s * v) : Int × Int) = b ↔ s = g := fun s => by
    constructor
    · intro e
      have e1 : a.1 + s * u = b.1 := by rw [← e]
      have e2 : a.2 + s * v = b.2 := by rw [← e]
      have f1 : (s - g) * u = 0 := by rw [Int.sub_mul]; omega
      have f2 : (s - g) * v = 0 := by rw [Int.sub_mul]; omega
      rcases Int.mul_eq_zero.1 f1 with c | c
      · omega
      · rcases Int.mul_eq_zero.1 f2 with c2 | c2
        · omega
        · exact absurd ⟨c, c2⟩ huv
    · intro e; subst e
      exact Prod.ext (by show a.1 + _ = b.1; omega) (by show a.2 + _ = b.2; omega)
  have hinj : ∀ s t : Int, ((a.1 + s * u, a.2 + s * v) : Int × Int) = (a.1 + t * u, a.2 + t * v) → s = t := fun s t e => by
    have e1 : a.1 + s * u = a.1 + t * u := (Prod.mk.injEq .. ▸ e).1
    have e2 : a.2 + s * v = a.2 + t * v := (Prod.mk.injEq .. ▸ e).2
    have f1 : (s - t) * u = 0 := by rw [Int.sub_mul]; omega
    have f2 : (s - t) * v = 0 := by rw [Int.sub_mul]; omega
    rcases Int.mul_eq_zero.1 f1 with c | c
    · omega
    · rcases Int.mul_eq_zero.1 f2 with c2 | c2
      · omega
      · exact absurd ⟨c, c2⟩ huv
  have key : ∀ x, half a b x = sumN (fun t => if x = (a.1 + (t : Int) * u, a.2 + (t : Int) * v) then 1 else 0) g := fun x => by
    by_cases c : ∃ t : Nat, t < g ∧ x = (a.1 + (t : Int) * u, a.2 + (t : Int) * v)
    · obtain ⟨t, ht, hx⟩ := c
      rw [sumN_one ht (fun j _ hne => if_neg fun e => hne (by
        have := hinj j t (by rw [← e, hx]); omega)), if_pos hx]
      refine if_pos ⟨by rw [hx]; exact honp t (by omega) (by omega), fun e => ?_⟩
      rw [hx] at e
      have := (hend t).1 e
      omega
    · rw [sumN_zero fun t ht => if_neg fun e => c ⟨t, ht, e⟩]
      refine if_neg fun q => c ?_
      obtain ⟨q1, q2⟩ := q
      obtain ⟨o1, o2⟩ := onB_turn q1
      obtain ⟨s, s1, s2⟩ := hst (x.1 - a.1) (x.2 - a.2) (by unfold turn at o1; omega)
      rw [hu, Int.mul_assoc] at s1
      rw [hv, Int.mul_assoc] at s2
      have t1 := Int.eq_of_mul_eq_mul_left (by omega) s1
      have t2 := Int.eq_of_mul_eq_mul_left (by omega) s2
      rw [Int.mul_comm] at t1 t2
      have hx : x = (a.1 + s * u, a.2 + s * v) := Prod.ext (by show x.1 = _; omega) (by show x.2 = _; omega)
      have e : dot (a.1 + s * u, a.2 + s * v) a b = -(s * (g - s) * (u * u + v * v)) := by
        unfold dot; simp only
        rw [show b.1 - (a.1 + s * u) = (b.1 - a.1) - s * u by omega, show b.2 - (a.2 + s * v) = (b.2 - a.2) - s * v by omega, hu, hv]; grind
      rw [hx, e] at o2
      have o3 : 0 ≤ s * (g - s) := by
        rcases Int.lt_or_le (s * (g - s)) 0 with w | w
        · have := mnp w np; omega
        · exact w
      have hs0 : 0 ≤ s := by
        rcases Int.lt_or_le s 0 with w | w
        · have := mnp w (show 0 < g - s by omega); omega
        · exact w
      have hsg : s ≤ g := by
        rcases Int.lt_or_le g s with w | w
        · have := mpn (show 0 < s by omega) (show g - s < 0 by omega); omega
        · exact w
      have hne : s ≠ g := fun w => q2 (by rw [hx]; exact (hend s).2 w)
      exact ⟨s.toNat, by omega, by rw [show ((s.toNat : Nat) : Int) = s by omega]; exact hx⟩
  rw [show half a b = fun x => sumN (fun t => if x = (a.1 + (t : Int) * u, a.2 + (t : Int) * v) then 1 else 0) g from funext key, sum2_sumN (fun t x => if x = (a.1 + (t : Int) * u, a.2 + (t : Int) * v) then 1 else 0)]
  rw [sumN_congr (g := fun _ => 1) (fun t ht => sum2_point 1 (by
    have o := honp t (by omega) (by omega)
    obtain ⟨o1, o2⟩ := onB_turn o
    have := (on_iff o1).1 o2
    simp only at this ⊢
    omega)), sumN_const]
  omega
/-- The points on the border. -/
theorem border_points {p : Nat → Int × Int} {n : Nat} (h : Simple p n) {B : Nat} (hb : ∀ i, (-B ≤ (p i).1 ∧ (p i).1 ≤ B) ∧ -B ≤ (p i).2 ∧ (p i).2 ≤ B) {f : Int × Int → Int}
    (hon : ∀ x i, i < n → onB (p i) (p (i + 1)) x = true → f x = 1) (hoff : ∀ x, (∀ i, i < n → onB (p i) (p (i + 1)) x = false) → f x = 0) :
    sum2 B f = sumN (fun i => (Int.gcd ((p (i + 1)).1 - (p i).1) ((p (i + 1)).2 - (p i).2) : Int)) n := by
  have key : ∀ x, f x = sumN (fun i => half (p i) (p (i + 1)) x) n := fun x => by
    by_cases c : ∃ i, i < n ∧ onB (p i) (p (i + 1)) x = true
    · obtain ⟨i, hi, ho⟩ := c
      rw [h.border_one hi ho, hon x i hi ho]
    · have ho : ∀ i, i < n → onB (p i) (p (i + 1)) x = false := fun i hi => by
        cases q : onB (p i) (p (i + 1)) x
        · rfl
        · exact absurd ⟨i, hi, q⟩ c
      rw [hoff x ho, sumN_zero (f := fun i => half (p i) (p (i + 1)) x) fun i hi => if_neg fun q => by rw [ho i hi] at q; cases q.1]
  rw [show f = fun x => sumN (fun i => half (p i) (p (i + 1)) x) n from funext key, sum2_sumN (fun i x => half (p i) (p (i + 1)) x)]
  exact sumN_congr fun i _ => seg_count (h.ne_next i) (hb i) (hb (i + 1))
end Go.Proofs.Ythiemglckmociaa
