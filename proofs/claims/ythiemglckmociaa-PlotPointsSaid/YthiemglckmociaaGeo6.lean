/- Plain geometry of plots, sixth part: points parted from a plot by a line; leaving a triangle; points that two ways have in common. No program in sight. No conditions. -/
import Derived.Test.YthiemglckmociaaGeo5
namespace Go.Proofs.Ythiemglckmociaa
theorem cr_sep {x a b : Int × Int} {u v g : Int} (hu : u ≤ 0) (hx : u * x.1 + v * x.2 + g < 0) (ha : 0 ≤ u * a.1 + v * a.2 + g) (hb : 0 ≤ u * b.1 + v * b.2 + g) : cr x a b = 0 := by
  have key : ∀ a b : Int × Int, 0 ≤ u * a.1 + v * a.2 + g → 0 ≤ u * b.1 + v * b.2 + g → a.2 ≤ x.2 → x.2 < b.2 → ¬ 0 < turn a b x := fun a b ha hb h1 h2 h3 => by
    have e : (b.2 - a.2) * (u * x.1 + v * x.2 + g) + u * turn a b x = (b.2 - x.2) * (u * a.1 + v * a.2 + g) + (x.2 - a.2) * (u * b.1 + v * b.2 + g) := by unfold turn; grind
    have m1 := mpn (a := b.2 - a.2) (by omega) hx
    have m2 := mnp0 hu (Int.le_of_lt h3)
    have m3 := mpp0 (a := b.2 - x.2) (by omega) ha
    have m4 := mpp0 (a := x.2 - a.2) (by omega) hb
    omega
  unfold cr
  rw [if_neg, if_neg]
  · rintro ⟨h1, h2, h3⟩
    exact key b a hb ha h1 h2 (by rw [turn_swap]; omega)
  · rintro ⟨h1, h2, h3⟩
    exact key a b ha hb h1 h2 h3
/-- What a line parts from all corners is gone round by nothing. -/
theorem wsum_sep {p : Nat → Int × Int} {n : Nat} (hper : p n = p 0) {x : Int × Int} {u v g : Int} (hx : u * x.1 + v * x.2 + g < 0) (h : ∀ i, i ≤ n → 0 ≤ u * (p i).1 + v * (p i).2 + g) : wsum p n x = 0 := by
  rcases Int.lt_or_le 0 u with c | c
  · have hoff : ∀ i, i < n → onB (p i) (p (i + 1)) x = false := fun i hi => by
      cases ho : onB (p i) (p (i + 1)) x
      · rfl
      · have h1 := h i (by omega)
        have h2 := h (i + 1) (by omega)
        have := seg_le (u := -u) (v := -v) (g := -g) ho (by simp only [Int.neg_mul]; omega) (by simp only [Int.neg_mul]; omega)
        simp only [Int.neg_mul] at this
        omega
    have e : ∀ i, i < n → cr x (p i) (p (i + 1)) = up x (p (i + 1)) - up x (p i) := fun i hi => by
      have h1 := h i (by omega)
      have h2 := h (i + 1) (by omega)
      have c0 := cr_both (hoff i hi)
      have c1 := cr_sep (x := neg x) (a := neg (p i)) (b := neg (p (i + 1))) (u := -u) (v := -v) (g := g) (by omega) (by unfold neg; simp only [Int.neg_mul_neg]; omega) (by unfold neg; simp only [Int.neg_mul_neg]; omega) (by unfold neg; simp only [Int.neg_mul_neg]; omega)
      omega
    unfold wsum
    rw [sumN_congr e, sumN_tele (fun i => up x (p i)), hper]
    omega
  · exact sumN_zero fun i hi => cr_sep c hx (h i (by omega)) (h (i + 1) (by omega))
/-- The three weights of a point in a triangle a, b, c. -/
def wA (_a b c z : Int × Int) : Int := turn c b z
def wB (a _b c z : Int × Int) : Int := turn a c z
def wC (a b _c z : Int × Int) : Int := turn b a z
def inT (a b c z : Int × Int) : Prop := 0 ≤ wA a b c z ∧ 0 ≤ wB a b c z ∧ 0 ≤ wC a b c z
theorem weights (a b c z : Int × Int) (u v g : Int) : turn a c b * (u * z.1 + v * z.2 + g) = wA a b c z * (u * a.1 + v * a.2 + g) + wB a b c z * (u * b.1 + v * b.2 + g) + wC a b c z * (u * c.1 + v * c.2 + g) := by
  unfold wA wB wC turn; grind
theorem weights_sum (a b c z : Int × Int) : wA a b c z + wB a b c z + wC a b c z = turn a c b := by unfold wA wB wC turn; grind
/-- A way from within a triangle that leaves it, not below the base, touches one of the other two sides. -/
theorem leave {a b c x q : Int × Int} (hD : 0 < turn a c b) (hx : inT a b c x) (hq : 0 ≤ wB a b c q) (hn : ¬ inT a b c q) (h1 : apart x q a b) (h2 : apart x q b c) : False := by
  obtain ⟨u, v, g, p1, p2, p3, p4⟩ := sep_of_apart h1
  obtain ⟨u', v', g', r1, r2, r3, r4⟩ := sep_of_apart h2
  have X := weights a b c x u v g
  have Q := weights a b c q u v g
  have X' := weights a b c x u' v' g'
  have Q' := weights a b c q u' v' g'
  have s1 := weights_sum a b c x
  have s2 := weights_sum a b c q
  obtain ⟨hA, hB, hC⟩ := hx
  have hq2 : ¬ (0 ≤ wA a b c q ∧ 0 ≤ wC a b c q) := fun ⟨k1, k2⟩ => hn ⟨k1, hq, k2⟩
  clear hn h1 h2
  generalize wA a b c x = gX at *
  generalize wB a b c x = fX at *
  generalize wC a b c x = hX at *
  generalize wA a b c q = gq at *
  generalize wB a b c q = fq at *
  generalize wC a b c q = hq' at *
  generalize turn a c b = D at *
  generalize u * a.1 + v * a.2 + g = Fa at *
  generalize u * b.1 + v * b.2 + g = Fb at *
  generalize u * c.1 + v * c.2 + g = Fc at *
  generalize u * x.1 + v * x.2 + g = Fx at *
  generalize u * q.1 + v * q.2 + g = Fq at *
  generalize u' * a.1 + v' * a.2 + g' = Ga at *
  generalize u' * b.1 + v' * b.2 + g' = Gb at *
  generalize u' * c.1 + v' * c.2 + g' = Gc at *
  generalize u' * x.1 + v' * x.2 + g' = Gx at *
  generalize u' * q.1 + v' * q.2 + g' = Gq at *
  have m1 := mpp hD p3
  have m2 := mpp hD p4
  have m3 := mpp hD r3
  have m4 := mpp hD r4
  -- c is beyond the line of a, b; a is beyond the line of b, c
  have n1 := mpn0 hA p1
  have n2 := mpn0 hB p2
  have n3 : 0 < hX * Fc := by omega
  have hXp : 0 < hX := by
    rcases Int.lt_or_le 0 hX with z | z
    · exact z
    · have : hX = 0 := by omega
      rw [this] at n3; simp at n3
  have Fcp : 0 < Fc := by rw [Int.mul_comm] at n3; exact fpos n3 hXp
  have n4 := mpn0 hB r1
  have n5 := mpn0 hC r2
  have n6 : 0 < gX * Ga := by omega
  have gXp : 0 < gX := by
    rcases Int.lt_or_le 0 gX with z | z
    · exact z
    · have : gX = 0 := by omega
      rw [this] at n6; simp at n6
  have Gap : 0 < Ga := by rw [Int.mul_comm] at n6; exact fpos n6 gXp
  have o1 := mpn0 hq p2
  have o2 := mpn0 hq r1
  have both : gq < 0 ∧ hq' < 0 := by
    by_cases z : gq < 0
    · refine ⟨z, ?_⟩
      have o3 := mnp z Gap
      have o4 : 0 < hq' * Gc := by omega
      rcases Int.lt_or_le hq' 0 with y | y
      · exact y
      · have := mpn0 y r2; omega
    · have z2 : hq' < 0 := by omega
      have o3 := mnp z2 Fcp
      have o4 : 0 < gq * Fa := by omega
      rcases Int.lt_or_le gq 0 with y | y
      · exact ⟨y, z2⟩
      · have := mpn0 y p1; omega
  obtain ⟨g0, h0⟩ := both
  rcases Int.le_total (hX * gq) (gX * hq') with t | t
  · -- by the second line
    have e : (-gq) * (D * Gx) + gX * (D * Gq) = ((-gq) * fX + gX * fq) * Gb + (gX * hq' - hX * gq) * Gc := by rw [X', Q']; grind
    have l1 := mpp (a := -gq) (by omega) m3
    have l2 := mpp gXp m4
    have l3 := mpp0 (a := -gq) (by omega) hB
    have l4 := mpp0 (Int.le_of_lt gXp) hq
    have l5 := mpn0 (a := (-gq) * fX + gX * fq) (by omega) r1
    have l6 := mpn0 (a := gX * hq' - hX * gq) (by omega) r2
    omega
  · have e : (-hq') * (D * Fx) + hX * (D * Fq) = (hX * gq - gX * hq') * Fa + ((-hq') * fX + hX * fq) * Fb := by rw [X, Q]; grind
    have l1 := mpp (a := -hq') (by omega) m1
    have l2 := mpp hXp m2
    have l3 := mpp0 (a := -hq') (by omega) hB
    have l4 := mpp0 (Int.le_of_lt hXp) hq
    have l5 := mpn0 (a := (-hq') * fX + hX * fq) (by omega) p2
    have l6 := mpn0 (a := hX * gq - gX * hq') (by omega) p1
    omega
/-- Two ways that touch have a point in common: told by whole weights. -/
theorem common {x y a b : Int × Int} (h : ¬ apart x y a b) : ∃ l m k t : Int, 0 ≤ l ∧ 0 ≤ m ∧ 0 ≤ k ∧ 0 ≤ t ∧ l + m = k + t ∧ 0 < l + m ∧ l * x.1 + m * y.1 = k * a.1 + t * b.1 ∧ l * x.2 + m * y.2 = k * a.2 + t * b.2 := by
  have pt : ∀ a b z : Int × Int, onB a b z = true → ∃ k t : Int, 0 ≤ k ∧ 0 ≤ t ∧ 0 < k + t ∧ (k + t) * z.1 = k * a.1 + t * b.1 ∧ (k + t) * z.2 = k * a.2 + t * b.2 := fun a b z ho => by
    by_cases hab : a = b
    · subst hab
      obtain ⟨ht, hd⟩ := onB_turn ho
      have hz : z = a := by
        have q1 := sq0 (a.1 - z.1); have q2 := sq0 (a.2 - z.2)
        unfold dot at hd
        have r1 : (a.1 - z.1) * (a.1 - z.1) = 0 := by omega
        have r2 : (a.2 - z.2) * (a.2 - z.2) = 0 := by omega
        have s1 : a.1 - z.1 = 0 := by rcases Int.mul_eq_zero.1 r1 with k | k <;> exact k
        have s2 : a.2 - z.2 = 0 := by rcases Int.mul_eq_zero.1 r2 with k | k <;> exact k
        exact Prod.ext (by omega) (by omega)
      subst hz
      exact ⟨1, 0, by omega, by omega, by omega, by omega, by omega⟩
    · obtain ⟨ht, hd⟩ := onB_turn ho
      have hN := norm_pos hab
      -- weights by the scalar products with b - a
      refine ⟨(b.1 - z.1) * (b.1 - a.1) + (b.2 - z.2) * (b.2 - a.2), (z.1 - a.1) * (b.1 - a.1) + (z.2 - a.2) * (b.2 - a.2), ?_, ?_, ?_, ?_, ?_⟩
      · by_cases e : z = b
        · subst e; simp
        · have := on_ahead (a := b) (b := a) (x := z) (by rw [onB_swap]; exact ho) e
          unfold dot at this
          have e2 : (b.1 - z.1) * (b.1 - a.1) + (b.2 - z.2) * (b.2 - a.2) = (a.1 - b.1) * (z.1 - b.1) + (a.2 - b.2) * (z.2 - b.2) := by grind
          omega
      · by_cases e : z = a
        · subst e; simp
        · have := on_ahead ho e
          unfold dot at this
          have e2 : (z.1 - a.1) * (b.1 - a.1) + (z.2 - a.2) * (b.2 - a.2) = (b.1 - a.1) * (z.1 - a.1) + (b.2 - a.2) * (z.2 - a.2) := by grind
          omega
      · have e2 : (b.1 - z.1) * (b.1 - a.1) + (b.2 - z.2) * (b.2 - a.2) + ((z.1 - a.1) * (b.1 - a.1) + (z.2 - a.2) * (b.2 - a.2)) = (b.1 - a.1) * (b.1 - a.1) + (b.2 - a.2) * (b.2 - a.2) := by grind
        omega
      · unfold turn at ht; grind
      · unfold turn at ht; grind
  by_cases c1 : onB a b x = true
  · obtain ⟨k, t, h1, h2, h3, h4, h5⟩ := pt a b x c1
    exact ⟨k + t, 0, k, t, by omega, by omega, h1, h2, by omega, by omega, by omega, by omega⟩
  by_cases c2 : onB a b y = true
  · obtain ⟨k, t, h1, h2, h3, h4, h5⟩ := pt a b y c2
    exact ⟨0, k + t, k, t, by omega, by omega, h1, h2, by omega, by omega, by omega, by omega⟩
  by_cases c3 : onB x y a = true
  · obtain ⟨k, t, h1, h2, h3, h4, h5⟩ := pt x y a c3
    exact ⟨k, t, k + t, 0, h1, h2, by omega, by omega, by omega, by omega, by omega, by omega⟩
  by_cases c4 : onB x y b = true
  · obtain ⟨k, t, h1, h2, h3, h4, h5⟩ := pt x y b c4
    exact ⟨k, t, 0, k + t, h1, h2, by omega, by omega, by omega, by omega, by omega, by omega⟩
  by_cases c5 : turn x y a * turn x y b < 0 ∧ turn a b x * turn a b y < 0
  · obtain ⟨d1, d2⟩ := c5
    have i0 := id0 a b x y
    have i1 := id1 a b x y 0
    have i2 := id2 a b x y 0
    simp only [Int.sub_zero] at i1 i2
    generalize turn x y a = A at *
    generalize turn x y b = B at *
    generalize turn a b x = X at *
    generalize turn a b y = Y at *
    rcases Int.lt_trichotomy A 0 with z | z | z
    · have hB : 0 < B := by
        rcases Int.lt_or_le 0 B with w | w
        · exact w
        · have := mnn0 (Int.le_of_lt z) w; omega
      have hXY : 0 < X ∧ Y < 0 := by
        rcases Int.lt_trichotomy X 0 with w | w | w
        · have : 0 < Y := by
            rcases Int.lt_or_le 0 Y with w' | w'
            · exact w'
            · have := mnn0 (Int.le_of_lt w) w'; omega
          omega
        · rw [w] at d2; simp at d2
        · have : Y < 0 := by
            rcases Int.lt_or_le Y 0 with w' | w'
            · exact w'
            · have := mpp0 (Int.le_of_lt w) w'; omega
          exact ⟨w, this⟩
      refine ⟨-Y, X, B, -A, by omega, by omega, by omega, by omega, by omega, by omega, ?_, ?_⟩
      · simp only [Int.neg_mul]; omega
      · simp only [Int.neg_mul]; omega
    · rw [z] at d1; simp at d1
    · have hB : B < 0 := by
        rcases Int.lt_or_le B 0 with w | w
        · exact w
        · have := mpp0 (Int.le_of_lt z) w; omega
      have hXY : X < 0 ∧ 0 < Y := by
        rcases Int.lt_trichotomy X 0 with w | w | w
        · have : 0 < Y := by
            rcases Int.lt_or_le 0 Y with w' | w'
            · exact w'
            · have := mnn0 (Int.le_of_lt w) w'; omega
          exact ⟨w, this⟩
        · rw [w] at d2; simp at d2
        · have : Y < 0 := by
            rcases Int.lt_or_le Y 0 with w' | w'
            · exact w'
            · have := mpp0 (Int.le_of_lt w) w'; omega
          omega
      refine ⟨Y, -X, -B, A, by omega, by omega, by omega, by omega, by omega, by omega, ?_, ?_⟩
      · simp only [Int.neg_mul]; omega
      · simp only [Int.neg_mul]; omega
  · exact absurd ⟨by simpa using c1, by simpa using c2, by simpa using c3, by simpa using c4, c5⟩ h
end Go.Proofs.Ythiemglckmociaa
