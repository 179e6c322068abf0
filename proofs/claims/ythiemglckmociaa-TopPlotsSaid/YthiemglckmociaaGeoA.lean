/- Plain geometry of plots with whole corners: how often a border goes round a point; what it meets first; the sign of the area. No program in sight. No conditions. -/

namespace Go.Proofs.Ythiemglckmociaa
/-- Twice the area of a triangle, above 0 if c is on the left of the way from a to b. -/
def turn (a b c : Int × Int) : Int := (b.1 - a.1) * (c.2 - a.2) - (b.2 - a.2) * (c.1 - a.1)
def dot (a b c : Int × Int) : Int := (b.1 - a.1) * (c.1 - a.1) + (b.2 - a.2) * (c.2 - a.2)
def onB (a b x : Int × Int) : Bool := turn a b x == 0 && decide (dot x a b ≤ 0)
/-- How a ray to the right from x meets the way from a to b. -/
def cr (x a b : Int × Int) : Int :=
  if a.2 ≤ x.2 ∧ x.2 < b.2 ∧ 0 < turn a b x then 1 else if b.2 ≤ x.2 ∧ x.2 < a.2 ∧ turn a b x < 0 then -1 else 0
theorem pos_of_mul_pos {a b : Int} (h : 0 < a * b) (hb : 0 < b) : 0 < a := by
  rcases Int.lt_trichotomy a 0 with h1 | h1 | h1
  · have := Int.mul_neg_of_neg_of_pos h1 hb; omega
  · subst h1; simp at h
  · exact h1
theorem neg_of_mul_neg {a b : Int} (h : a * b < 0) (hb : 0 < b) : a < 0 := by
  rcases Int.lt_trichotomy a 0 with h1 | h1 | h1
  · exact h1
  · subst h1; simp at h
  · have := Int.mul_pos h1 hb; omega
theorem turn_swap (a b x : Int × Int) : turn b a x = - turn a b x := by unfold turn; grind
theorem turn_rot (a b c : Int × Int) : turn b c a = turn a b c := by unfold turn; grind
theorem cr_swap (x a b : Int × Int) : cr x b a = - cr x a b := by
  unfold cr; rw [turn_swap]; split <;> split <;> (try split) <;> omega
theorem id2 (a b x y : Int × Int) (c : Int) : turn x y a * (b.2 - c) - turn x y b * (a.2 - c) = turn a b y * (x.2 - c) - turn a b x * (y.2 - c) := by
  unfold turn; grind
theorem id1 (a b x y : Int × Int) (c : Int) : turn x y a * (b.1 - c) - turn x y b * (a.1 - c) = turn a b y * (x.1 - c) - turn a b x * (y.1 - c) := by
  unfold turn; grind
theorem id0 (a b x y : Int × Int) : turn x y a - turn x y b = turn a b y - turn a b x := by unfold turn; grind
theorem nonpos_both {d1 d2 e1 e2 : Int} (h : d1 * e2 = d2 * e1) (hd : d1 * e1 + d2 * e2 ≤ 0) : d1 * e1 ≤ 0 ∧ d2 * e2 ≤ 0 := by
  have hs : (d1 * e1) * (d2 * e2) = (d1 * e2) * (d1 * e2) := by
    have : (d1 * e1) * (d2 * e2) = (d1 * e2) * (d2 * e1) := by grind
    rw [this, ← h]
  have hq : 0 ≤ (d1 * e2) * (d1 * e2) := by
    rcases Int.le_total 0 (d1 * e2) with k | k
    · exact Int.mul_nonneg k k
    · exact Int.mul_nonneg_of_nonpos_of_nonpos k k
  constructor
  · rcases Int.lt_or_le 0 (d1 * e1) with k | k
    · have : d2 * e2 < 0 := by omega
      have := Int.mul_neg_of_pos_of_neg k this
      omega
    · exact k
  · rcases Int.lt_or_le 0 (d2 * e2) with k | k
    · have : d1 * e1 < 0 := by omega
      have := Int.mul_neg_of_neg_of_pos this k
      omega
    · exact k
theorem between_iff {a b x : Int} : (a - x) * (b - x) ≤ 0 ↔ min a b ≤ x ∧ x ≤ max a b := by
  constructor
  · intro h
    rcases Int.lt_or_le x (min a b) with k | k
    · have := Int.mul_pos (a := a - x) (b := b - x) (by omega) (by omega); omega
    · rcases Int.lt_or_le (max a b) x with k' | k'
      · have := Int.mul_pos_of_neg_of_neg (a := a - x) (b := b - x) (by omega) (by omega); omega
      · exact ⟨k, k'⟩
  · intro ⟨h1, h2⟩
    rcases Int.le_total a x with k | k
    · rcases Int.le_total x b with k' | k'
      · exact Int.mul_nonpos_of_nonpos_of_nonneg (by omega) (by omega)
      · by_cases e : a = x
        · subst e; simp
        · have : b = x := by omega
          subst this; simp
    · rcases Int.le_total b x with k' | k'
      · exact Int.mul_nonpos_of_nonneg_of_nonpos (by omega) (by omega)
      · by_cases e : a = x
        · subst e; simp
        · have : b = x := by omega
          subst this; simp
/-- On a side: by the scalar product, or by the box. -/
theorem on_iff {a b x : Int × Int} (h : turn a b x = 0) : dot x a b ≤ 0 ↔ (min a.1 b.1 ≤ x.1 ∧ x.1 ≤ max a.1 b.1) ∧ (min a.2 b.2 ≤ x.2 ∧ x.2 ≤ max a.2 b.2) := by
  rw [← between_iff, ← between_iff]
  unfold dot
  constructor
  · intro hd; exact nonpos_both (by unfold turn at h; grind) hd
  · intro ⟨h1, h2⟩; omega
theorem on_y {a b x : Int × Int} (h : turn a b x = 0) (h1 : a.2 ≤ x.2) (h2 : x.2 ≤ b.2) (h3 : a.2 < b.2) : onB a b x = true := by
  unfold onB
  rw [Bool.and_eq_true]
  refine ⟨by simpa using h, decide_eq_true ?_⟩
  unfold dot
  have e : (a.1 - x.1) * (b.2 - x.2) = (a.2 - x.2) * (b.1 - x.1) := by unfold turn at h; grind
  by_cases hb : b.2 = x.2
  · have e2 : (a.2 - x.2) * (b.1 - x.1) = 0 := by rw [← e, hb]; simp
    have : b.1 - x.1 = 0 := by
      rcases Int.mul_eq_zero.1 e2 with k | k
      · omega
      · exact k
    rw [this, hb]; simp
  · have hp : 0 < b.2 - x.2 := by omega
    have e3 : ((a.1 - x.1) * (b.1 - x.1) + (a.2 - x.2) * (b.2 - x.2)) * (b.2 - x.2) = (a.2 - x.2) * ((b.1 - x.1) * (b.1 - x.1) + (b.2 - x.2) * (b.2 - x.2)) := by grind
    have q1 : 0 ≤ (b.1 - x.1) * (b.1 - x.1) := by
      rcases Int.le_total 0 (b.1 - x.1) with k | k
      · exact Int.mul_nonneg k k
      · exact Int.mul_nonneg_of_nonpos_of_nonpos k k
    have q2 := Int.mul_nonneg (Int.le_of_lt hp) (Int.le_of_lt hp)
    have q3 : (a.2 - x.2) * ((b.1 - x.1) * (b.1 - x.1) + (b.2 - x.2) * (b.2 - x.2)) ≤ 0 := Int.mul_nonpos_of_nonpos_of_nonneg (by omega) (by omega)
    rw [← e3] at q3
    rcases Int.lt_or_le 0 ((a.1 - x.1) * (b.1 - x.1) + (a.2 - x.2) * (b.2 - x.2)) with k | k
    · have := Int.mul_pos k hp; omega
    · exact k
theorem on_x {a b x : Int × Int} (h1 : a.2 = x.2) (h2 : x.2 = b.2) (h3 : (a.1 - x.1) * (b.1 - x.1) ≤ 0) : onB a b x = true := by
  unfold onB
  rw [Bool.and_eq_true]
  refine ⟨by unfold turn; rw [← h2, h1]; simp, decide_eq_true ?_⟩
  unfold dot
  rw [h1]; simpa using h3
theorem mpp {a b : Int} (ha : 0 < a) (hb : 0 < b) : 0 < a * b := Int.mul_pos ha hb
theorem mnn {a b : Int} (ha : a < 0) (hb : b < 0) : 0 < a * b := Int.mul_pos_of_neg_of_neg ha hb
theorem mpn {a b : Int} (ha : 0 < a) (hb : b < 0) : a * b < 0 := Int.mul_neg_of_pos_of_neg ha hb
theorem mnp {a b : Int} (ha : a < 0) (hb : 0 < b) : a * b < 0 := Int.mul_neg_of_neg_of_pos ha hb
theorem mpp0 {a b : Int} (ha : 0 ≤ a) (hb : 0 ≤ b) : 0 ≤ a * b := Int.mul_nonneg ha hb
theorem mnn0 {a b : Int} (ha : a ≤ 0) (hb : b ≤ 0) : 0 ≤ a * b := Int.mul_nonneg_of_nonpos_of_nonpos ha hb
theorem mpn0 {a b : Int} (ha : 0 ≤ a) (hb : b ≤ 0) : a * b ≤ 0 := Int.mul_nonpos_of_nonneg_of_nonpos ha hb
theorem mnp0 {a b : Int} (ha : a ≤ 0) (hb : 0 ≤ b) : a * b ≤ 0 := Int.mul_nonpos_of_nonpos_of_nonneg ha hb
/-- Signs of a factor. -/
theorem fpos {a b : Int} (h : 0 < a * b) (hb : 0 < b) : 0 < a := pos_of_mul_pos h hb
theorem fneg {a b : Int} (h : a * b < 0) (hb : 0 < b) : a < 0 := neg_of_mul_neg h hb
/-- The sides from a to b and from x to y have no point in common. -/
def apart (x y a b : Int × Int) : Prop :=
  onB a b x = false ∧ onB a b y = false ∧ onB x y a = false ∧ onB x y b = false ∧
    ¬ (turn x y a * turn x y b < 0 ∧ turn a b x * turn a b y < 0)
theorem onB_swap (a b x : Int × Int) : onB b a x = onB a b x := by
  unfold onB
  have h1 : (turn b a x == 0) = (turn a b x == 0) := by rw [turn_swap]; rw [Bool.eq_iff_iff]; simp
  have h2 : dot x b a = dot x a b := by unfold dot; grind
  rw [h1, h2]
theorem apart_swap {x y a b : Int × Int} (h : apart x y a b) : apart x y b a := by
  obtain ⟨h1, h2, h3, h4, h5⟩ := h
  refine ⟨by rw [onB_swap]; exact h1, by rw [onB_swap]; exact h2, h4, h3, ?_⟩
  rw [turn_swap a b x, turn_swap a b y]
  rw [Int.mul_comm (turn x y b), Int.neg_mul_neg]
  exact h5
/-- The region above x and not above y, on the right of the way from x to y. -/
def reg (x y v : Int × Int) : Int := if x.2 < v.2 ∧ v.2 ≤ y.2 ∧ turn x y v < 0 then 1 else 0
theorem cross_up {x y a b : Int × Int} (hxy : x.2 ≤ y.2) (hab : a.2 ≤ b.2) (hap : apart x y a b) : cr x a b - cr y a b = reg x y b - reg x y a := by
  obtain ⟨n1, n2, n3, n4, n5⟩ := hap
  have c1 : ∀ z : Int × Int, cr z a b = if a.2 ≤ z.2 ∧ z.2 < b.2 ∧ 0 < turn a b z then 1 else 0 := by
    intro z; unfold cr; split
    · rfl
    · split <;> omega
  rw [c1, c1]
  unfold reg
  have i0 := id0 a b x y
  have ip := id2 a b x y x.2
  have iq := id2 a b x y y.2
  have ia := id2 a b x y a.2
  have ib := id2 a b x y b.2
  simp only [Int.sub_self, Int.mul_zero, Int.zero_sub, Int.sub_zero] at ip iq ia ib
  -- x and y are not on the line a b where that is between the ends
  have sx : a.2 ≤ x.2 → x.2 < b.2 → turn a b x ≠ 0 := fun h1 h2 h3 => by
    rw [on_y h3 h1 (by omega) (by omega)] at n1; cases n1
  have sy : a.2 ≤ y.2 → y.2 < b.2 → turn a b y ≠ 0 := fun h1 h2 h3 => by
    rw [on_y h3 h1 (by omega) (by omega)] at n2; cases n2
  have ta : x.2 < a.2 → a.2 ≤ y.2 → turn x y a ≠ 0 := fun h1 h2 h3 => by
    rw [on_y h3 (by omega) h2 (by omega)] at n3; cases n3
  have tb : x.2 < b.2 → b.2 ≤ y.2 → turn x y b ≠ 0 := fun h1 h2 h3 => by
    rw [on_y h3 (by omega) h2 (by omega)] at n4; cases n4
  generalize hTA : turn x y a = TA at *
  generalize hTB : turn x y b = TB at *
  generalize hSX : turn a b x = SX at *
  generalize hSY : turn a b y = SY at *
  by_cases c1 : b.2 ≤ x.2
  · rw [if_neg (by omega), if_neg (by omega), if_neg (by omega), if_neg (by omega)]
  by_cases c2 : y.2 < a.2
  · rw [if_neg (by omega), if_neg (by omega), if_neg (by omega), if_neg (by omega)]
  by_cases c3 : a.2 ≤ x.2
  · by_cases c4 : y.2 < b.2
    · -- both points in the strip of the side
      have hx := sx c3 (by omega)
      have hy := sy (by omega) c4
      have key : ¬ (0 < SX ∧ SY < 0) ∧ ¬ (SX < 0 ∧ 0 < SY) := by
        constructor
        · rintro ⟨k1, k2⟩
          have e1 := mnn k2 (b := x.2 - b.2) (by omega)
          have e2 := mpn k1 (b := y.2 - b.2) (by omega)
          have e3 : 0 < TB * (b.2 - a.2) := by
            have : TB * (b.2 - a.2) = -(TB * (a.2 - b.2)) := by grind
            omega
          have h1 := fpos e3 (by omega)
          have e4 := mnp0 (Int.le_of_lt k2) (b := x.2 - a.2) (by omega)
          have e5 := mpp0 (Int.le_of_lt k1) (b := y.2 - a.2) (by omega)
          by_cases z : TA = 0
          · subst z
            simp at ia
            have z1 : SX * (y.2 - a.2) = 0 := by omega
            have z2 : y.2 - a.2 = 0 := by
              rcases Int.mul_eq_zero.1 z1 with k | k
              · omega
              · exact k
            have : onB x y a = true := on_x (by omega) (by omega) (by
              have g1 : SX = - ((b.2 - a.2) * (x.1 - a.1)) := by rw [← hSX]; unfold turn; rw [show x.2 - a.2 = 0 by omega]; simp
              have g2 : SY = - ((b.2 - a.2) * (y.1 - a.1)) := by rw [← hSY]; unfold turn; rw [show y.2 - a.2 = 0 by omega]; simp
              have g3 : (x.1 - a.1) * (b.2 - a.2) < 0 := by rw [Int.mul_comm]; omega
              have g4 : 0 < (y.1 - a.1) * (b.2 - a.2) := by rw [Int.mul_comm]; omega
              exact Int.le_of_lt (mnp (fneg g3 (by omega)) (fpos g4 (by omega))))
            rw [this] at n3; cases n3
          · have h2 : TA < 0 := by
              have : TA * (b.2 - a.2) < 0 ∨ TA * (b.2 - a.2) = 0 := by omega
              rcases this with k | k
              · exact fneg k (by omega)
              · rcases Int.mul_eq_zero.1 k with k | k <;> omega
            exact n5 ⟨mnp h2 h1, mpn k1 k2⟩
        · rintro ⟨k1, k2⟩
          have e1 := mpn k2 (b := x.2 - b.2) (by omega)
          have e2 := mnn k1 (b := y.2 - b.2) (by omega)
          have e3 : TB * (b.2 - a.2) < 0 := by
            have : TB * (b.2 - a.2) = -(TB * (a.2 - b.2)) := by grind
            omega
          have h1 := fneg e3 (by omega)
          have e4 := mpp0 (Int.le_of_lt k2) (b := x.2 - a.2) (by omega)
          have e5 := mnp0 (Int.le_of_lt k1) (b := y.2 - a.2) (by omega)
          by_cases z : TA = 0
          · subst z
            simp at ia
            have z1 : SX * (y.2 - a.2) = 0 := by omega
            have z2 : y.2 - a.2 = 0 := by
              rcases Int.mul_eq_zero.1 z1 with k | k
              · omega
              · exact k
            have : onB x y a = true := on_x (by omega) (by omega) (by
              have g1 : SX = - ((b.2 - a.2) * (x.1 - a.1)) := by rw [← hSX]; unfold turn; rw [show x.2 - a.2 = 0 by omega]; simp
              have g2 : SY = - ((b.2 - a.2) * (y.1 - a.1)) := by rw [← hSY]; unfold turn; rw [show y.2 - a.2 = 0 by omega]; simp
              have g3 : 0 < (x.1 - a.1) * (b.2 - a.2) := by rw [Int.mul_comm]; omega
              have g4 : (y.1 - a.1) * (b.2 - a.2) < 0 := by rw [Int.mul_comm]; omega
              exact Int.le_of_lt (mpn (fpos g3 (by omega)) (fneg g4 (by omega))))
            rw [this] at n3; cases n3
          · have h2 : 0 < TA := by
              have : 0 < TA * (b.2 - a.2) ∨ TA * (b.2 - a.2) = 0 := by omega
              rcases this with k | k
              · exact fpos k (by omega)
              · rcases Int.mul_eq_zero.1 k with k | k <;> omega
            exact n5 ⟨mpn h2 h1, mnp k1 k2⟩
      rw [if_neg (c := x.2 < b.2 ∧ _) (by omega), if_neg (c := x.2 < a.2 ∧ _) (by omega)]
      by_cases k : 0 < SX
      · rw [if_pos (by omega), if_pos (by omega)]; (try omega)
      · rw [if_neg (by omega), if_neg (by omega)]
    · -- a, x, b, y
      have hx := sx c3 (by omega)
      have hb := tb (by omega) (by omega)
      have key : ¬ (0 < SX ∧ 0 < TB) ∧ ¬ (SX < 0 ∧ TB < 0) := by
        constructor
        · rintro ⟨k1, k2⟩
          have e1 := mpp0 (Int.le_of_lt k2) (b := x.2 - a.2) (by omega)
          have e1' : TB * (a.2 - x.2) = -(TB * (x.2 - a.2)) := by grind
          have e2 := mpp k1 (b := y.2 - x.2) (by omega)
          have h1 : TA < 0 := fneg (b := b.2 - x.2) (by omega) (by omega)
          have e3 := mpp k2 (b := b.2 - a.2) (by omega)
          have e3' : TB * (a.2 - b.2) = -(TB * (b.2 - a.2)) := by grind
          have e4 := mpp0 (Int.le_of_lt k1) (b := y.2 - b.2) (by omega)
          have e5 : SY * (b.2 - x.2) < 0 := by
            have : SY * (b.2 - x.2) = -(SY * (x.2 - b.2)) := by grind
            omega
          have h2 := fneg e5 (by omega)
          exact n5 ⟨mnp h1 k2, mpn k1 h2⟩
        · rintro ⟨k1, k2⟩
          have e1 := mnp0 (Int.le_of_lt k2) (b := x.2 - a.2) (by omega)
          have e1' : TB * (a.2 - x.2) = -(TB * (x.2 - a.2)) := by grind
          have e2 := mnp k1 (b := y.2 - x.2) (by omega)
          have h1 : 0 < TA := fpos (b := b.2 - x.2) (by omega) (by omega)
          have e3 := mnp k2 (b := b.2 - a.2) (by omega)
          have e3' : TB * (a.2 - b.2) = -(TB * (b.2 - a.2)) := by grind
          have e4 := mnp0 (Int.le_of_lt k1) (b := y.2 - b.2) (by omega)
          have e5 : 0 < SY * (b.2 - x.2) := by
            have : SY * (b.2 - x.2) = -(SY * (x.2 - b.2)) := by grind
            omega
          have h2 := fpos e5 (by omega)
          exact n5 ⟨mpn h1 k2, mnp k1 h2⟩
      rw [if_neg (c := a.2 ≤ y.2 ∧ _) (by omega), if_neg (c := x.2 < a.2 ∧ _) (by omega)]
      by_cases k : 0 < SX
      · rw [if_pos (by omega), if_pos (by omega)]; (try omega)
      · rw [if_neg (by omega), if_neg (by omega)]
  · by_cases c4 : y.2 < b.2
    · -- x, a, y, b
      have hy := sy (by omega) c4
      have ha := ta (by omega) (by omega)
      have key : ¬ (0 < SY ∧ 0 < TA) ∧ ¬ (SY < 0 ∧ TA < 0) := by
        constructor
        · rintro ⟨k1, k2⟩
          have e1 := mpn k1 (b := x.2 - y.2) (by omega)
          have e2 := mpp k2 (b := b.2 - y.2) (by omega)
          have e3 : TB * (y.2 - a.2) < 0 := by
            have : TB * (y.2 - a.2) = -(TB * (a.2 - y.2)) := by grind
            omega
          have h1 : TB < 0 := by
            by_cases z : y.2 = a.2
            · rw [z] at e3; simp at e3
            · exact fneg e3 (by omega)
          have e4 := mpn k1 (b := x.2 - a.2) (by omega)
          have e5 := mpp k2 (b := b.2 - a.2) (by omega)
          have e6 : SX * (y.2 - a.2) < 0 := by omega
          have h2 : SX < 0 := by
            by_cases z : y.2 = a.2
            · rw [z] at e6; simp at e6
            · exact fneg e6 (by omega)
          exact n5 ⟨mpn k2 h1, mnp h2 k1⟩
        · rintro ⟨k1, k2⟩
          have e1 := mnn k1 (b := x.2 - y.2) (by omega)
          have e2 := mnp k2 (b := b.2 - y.2) (by omega)
          have e3 : 0 < TB * (y.2 - a.2) := by
            have : TB * (y.2 - a.2) = -(TB * (a.2 - y.2)) := by grind
            omega
          have h1 : 0 < TB := by
            by_cases z : y.2 = a.2
            · rw [z] at e3; simp at e3
            · exact fpos e3 (by omega)
          have e4 := mnn k1 (b := x.2 - a.2) (by omega)
          have e5 := mnp k2 (b := b.2 - a.2) (by omega)
          have e6 : 0 < SX * (y.2 - a.2) := by omega
          have h2 : 0 < SX := by
            by_cases z : y.2 = a.2
            · rw [z] at e6; simp at e6
            · exact fpos e6 (by omega)
          exact n5 ⟨mnp k2 h1, mpn h2 k1⟩
      rw [if_neg (c := a.2 ≤ x.2 ∧ _) (by omega), if_neg (c := x.2 < b.2 ∧ b.2 ≤ y.2 ∧ _) (by omega)]
      by_cases k : 0 < SY
      · rw [if_pos (by omega), if_pos (by omega)]; (try omega)
      · rw [if_neg (by omega), if_neg (by omega)]
    · -- both ends in the strip of the points
      have ha := ta (by omega) (by omega)
      have hb := tb (by omega) (by omega)
      have key : ¬ (0 < TA ∧ TB < 0) ∧ ¬ (TA < 0 ∧ 0 < TB) := by
        constructor
        · rintro ⟨k1, k2⟩
          have e1 := mpp k1 (b := b.2 - x.2) (by omega)
          have e2 := mnp k2 (b := a.2 - x.2) (by omega)
          have h1 : SX < 0 := fneg (b := y.2 - x.2) (by omega) (by omega)
          have e3 := mpn0 (Int.le_of_lt k1) (b := b.2 - y.2) (by omega)
          have e4 := mnn0 (Int.le_of_lt k2) (b := a.2 - y.2) (by omega)
          have e5 : SY * (y.2 - x.2) = -(SY * (x.2 - y.2)) := by grind
          by_cases z : SY = 0
          · subst z
            simp at iq
            have z1 : TB * (a.2 - y.2) = 0 := by omega
            have z2 : a.2 - y.2 = 0 := by
              rcases Int.mul_eq_zero.1 z1 with k | k
              · omega
              · exact k
            have : onB a b y = true := on_x (by omega) (by omega) (by
              have g1 : TA = - ((y.2 - x.2) * (a.1 - x.1)) + (y.1 - x.1) * (y.2 - x.2) := by rw [← hTA]; unfold turn; rw [show a.2 = y.2 by omega]; grind
              have g2 : TB = - ((y.2 - x.2) * (b.1 - x.1)) + (y.1 - x.1) * (y.2 - x.2) := by rw [← hTB]; unfold turn; rw [show b.2 = y.2 by omega]; grind
              have g3 : (a.1 - y.1) * (y.2 - x.2) < 0 := by
                have : (a.1 - y.1) * (y.2 - x.2) = - TA := by rw [g1]; grind
                omega
              have g4 : 0 < (b.1 - y.1) * (y.2 - x.2) := by
                have : (b.1 - y.1) * (y.2 - x.2) = - TB := by rw [g2]; grind
                omega
              exact Int.le_of_lt (mnp (fneg g3 (by omega)) (fpos g4 (by omega))))
            rw [this] at n2; cases n2
          · have h2 : 0 < SY := by
              have : 0 < SY * (y.2 - x.2) ∨ SY * (y.2 - x.2) = 0 := by omega
              rcases this with k | k
              · exact fpos k (by omega)
              · rcases Int.mul_eq_zero.1 k with k | k <;> omega
            exact n5 ⟨mpn k1 k2, mnp h1 h2⟩
        · rintro ⟨k1, k2⟩
          have e1 := mnp k1 (b := b.2 - x.2) (by omega)
          have e2 := mpp k2 (b := a.2 - x.2) (by omega)
          have h1 : 0 < SX := fpos (b := y.2 - x.2) (by omega) (by omega)
          have e3 := mnn0 (Int.le_of_lt k1) (b := b.2 - y.2) (by omega)
          have e4 := mpn0 (Int.le_of_lt k2) (b := a.2 - y.2) (by omega)
          have e5 : SY * (y.2 - x.2) = -(SY * (x.2 - y.2)) := by grind
          by_cases z : SY = 0
          · subst z
            simp at iq
            have z1 : TB * (a.2 - y.2) = 0 := by omega
            have z2 : a.2 - y.2 = 0 := by
              rcases Int.mul_eq_zero.1 z1 with k | k
              · omega
              · exact k
            have : onB a b y = true := on_x (by omega) (by omega) (by
              have g1 : TA = - ((y.2 - x.2) * (a.1 - x.1)) + (y.1 - x.1) * (y.2 - x.2) := by rw [← hTA]; unfold turn; rw [show a.2 = y.2 by omega]; grind
              have g2 : TB = - ((y.2 - x.2) * (b.1 - x.1)) + (y.1 - x.1) * (y.2 - x.2) := by rw [← hTB]; unfold turn; rw [show b.2 = y.2 by omega]; grind
              have g3 : 0 < (a.1 - y.1) * (y.2 - x.2) := by
                have : (a.1 - y.1) * (y.2 - x.2) = - TA := by rw [g1]; grind
                omega
              have g4 : (b.1 - y.1) * (y.2 - x.2) < 0 := by
                have : (b.1 - y.1) * (y.2 - x.2) = - TB := by rw [g2]; grind
                omega
              exact Int.le_of_lt (mpn (fpos g3 (by omega)) (fneg g4 (by omega))))
            rw [this] at n2; cases n2
          · have h2 : SY < 0 := by
              have : SY * (y.2 - x.2) < 0 ∨ SY * (y.2 - x.2) = 0 := by omega
              rcases this with k | k
              · exact fneg k (by omega)
              · rcases Int.mul_eq_zero.1 k with k | k <;> omega
            exact n5 ⟨mnp k1 k2, mpn h1 h2⟩
      rw [if_neg (c := a.2 ≤ x.2 ∧ _) (by omega), if_neg (c := a.2 ≤ y.2 ∧ _) (by omega)]
      by_cases k : TA < 0
      · rw [if_pos (by omega), if_pos (by omega)]; rfl
      · rw [if_neg (by omega), if_neg (by omega)]
/-- A ray that moves along a way that a side does not touch: what it crosses changes as the side's ends leave a region. -/
theorem cross {x y a b : Int × Int} (hxy : x.2 ≤ y.2) (hap : apart x y a b) : cr x a b - cr y a b = reg x y b - reg x y a := by
  rcases Int.le_total a.2 b.2 with h | h
  · exact cross_up hxy h hap
  · have := cross_up hxy h (apart_swap hap)
    rw [cr_swap x, cr_swap y] at this; omega
/-- A line with both ends of one side on one side of it, and both ends of the other strictly on the other side. -/
theorem seg_le {a b x : Int × Int} {u v g : Int} (h : onB a b x = true) (ha : u * a.1 + v * a.2 + g ≤ 0) (hb : u * b.1 + v * b.2 + g ≤ 0) : u * x.1 + v * x.2 + g ≤ 0 := by
  unfold onB at h
  rw [Bool.and_eq_true] at h
  obtain ⟨h1, h2⟩ := h
  have h1 : turn a b x = 0 := by simpa using h1
  have h2 := of_decide_eq_true h2
  have key : ((b.1 - a.1) * (b.1 - a.1) + (b.2 - a.2) * (b.2 - a.2)) * (u * x.1 + v * x.2 + g) =
      ((b.1 - x.1) * (b.1 - a.1) + (b.2 - x.2) * (b.2 - a.2)) * (u * a.1 + v * a.2 + g) + ((x.1 - a.1) * (b.1 - a.1) + (x.2 - a.2) * (b.2 - a.2)) * (u * b.1 + v * b.2 + g) := by
    unfold turn at h1; grind
  have sq : ∀ z : Int, 0 ≤ z * z := fun z => by
    rcases Int.le_total 0 z with k | k
    · exact mpp0 k k
    · exact mnn0 k k
  unfold dot at h2
  have c1 : 0 ≤ (b.1 - x.1) * (b.1 - a.1) + (b.2 - x.2) * (b.2 - a.2) := by
    have := sq (b.1 - x.1); have := sq (b.2 - x.2)
    have e : (b.1 - x.1) * (b.1 - a.1) + (b.2 - x.2) * (b.2 - a.2) = (b.1 - x.1) * (b.1 - x.1) + (b.2 - x.2) * (b.2 - x.2) - ((a.1 - x.1) * (b.1 - x.1) + (a.2 - x.2) * (b.2 - x.2)) := by grind
    omega
  have c2 : 0 ≤ (x.1 - a.1) * (b.1 - a.1) + (x.2 - a.2) * (b.2 - a.2) := by
    have := sq (x.1 - a.1); have := sq (x.2 - a.2)
    have e : (x.1 - a.1) * (b.1 - a.1) + (x.2 - a.2) * (b.2 - a.2) = (x.1 - a.1) * (x.1 - a.1) + (x.2 - a.2) * (x.2 - a.2) - ((a.1 - x.1) * (b.1 - x.1) + (a.2 - x.2) * (b.2 - x.2)) := by grind
    omega
  have e1 := mpn0 c1 ha
  have e2 := mpn0 c2 hb
  rcases Int.lt_or_le 0 (u * x.1 + v * x.2 + g) with k | k
  · have p : (b.1 - a.1) * (b.1 - a.1) + (b.2 - a.2) * (b.2 - a.2) = 0 := by
      have q1 := sq (b.1 - a.1); have q2 := sq (b.2 - a.2)
      rcases Int.lt_or_le 0 ((b.1 - a.1) * (b.1 - a.1) + (b.2 - a.2) * (b.2 - a.2)) with k' | k'
      · have := mpp k' k; omega
      · omega
    have q1 := sq (b.1 - a.1); have q2 := sq (b.2 - a.2)
    have r1 : (b.1 - a.1) * (b.1 - a.1) = 0 := by omega
    have r2 : (b.2 - a.2) * (b.2 - a.2) = 0 := by omega
    have s1 : b.1 = a.1 := by rcases Int.mul_eq_zero.1 r1 with k | k <;> omega
    have s2 : b.2 = a.2 := by rcases Int.mul_eq_zero.1 r2 with k | k <;> omega
    rw [s1, s2] at h2
    have t1 := sq (a.1 - x.1); have t2 := sq (a.2 - x.2)
    have w1 : (a.1 - x.1) * (a.1 - x.1) = 0 := by omega
    have w2 : (a.2 - x.2) * (a.2 - x.2) = 0 := by omega
    have v1 : a.1 = x.1 := by rcases Int.mul_eq_zero.1 w1 with k | k <;> omega
    have v2 : a.2 = x.2 := by rcases Int.mul_eq_zero.1 w2 with k | k <;> omega
    rw [← v1, ← v2]; exact ha
  · exact k
theorem apart_of_sep {x y a b : Int × Int} {u v g : Int} (ha : u * a.1 + v * a.2 + g ≤ 0) (hb : u * b.1 + v * b.2 + g ≤ 0)
    (hx : 0 < u * x.1 + v * x.2 + g) (hy : 0 < u * y.1 + v * y.2 + g) : apart x y a b := by
  have n1 : onB a b x = false := by
    cases h : onB a b x
    · rfl
    · have := seg_le h ha hb; omega
  have n2 : onB a b y = false := by
    cases h : onB a b y
    · rfl
    · have := seg_le h ha hb; omega
  have rev : ∀ z, onB x y z = true → 0 < u * z.1 + v * z.2 + g := fun z hz => by
    have := seg_le (u := -u) (v := -v) (g := 1 - g) hz (by simp only [Int.neg_mul]; omega) (by simp only [Int.neg_mul]; omega)
    simp only [Int.neg_mul] at this; omega
  refine ⟨n1, n2, ?_, ?_, ?_⟩
  · cases h : onB x y a
    · rfl
    · have := rev a h; omega
  · cases h : onB x y b
    · rfl
    · have := rev b h; omega
  · rintro ⟨k1, k2⟩
    have key : turn x y a * (u * b.1 + v * b.2 + g) - turn x y b * (u * a.1 + v * a.2 + g) = turn a b y * (u * x.1 + v * x.2 + g) - turn a b x * (u * y.1 + v * y.2 + g) := by
      have h0 := id0 a b x y
      have h1 := id1 a b x y 0
      have h2 := id2 a b x y 0
      grind
    have h0 := id0 a b x y
    rcases Int.lt_trichotomy (turn x y a) 0 with p | p | p
    · have q : 0 < turn x y b := by
        rcases Int.lt_or_le 0 (turn x y b) with q | q
        · exact q
        · have := mnn0 (Int.le_of_lt p) q; omega
      have r : turn a b y < 0 ∧ 0 < turn a b x := by
        rcases Int.lt_trichotomy (turn a b x) 0 with r | r | r
        · have : 0 < turn a b y := by
            rcases Int.lt_or_le 0 (turn a b y) with q | q
            · exact q
            · have := mnn0 (Int.le_of_lt r) q; omega
          omega
        · rw [r] at k2; simp at k2
        · refine ⟨?_, r⟩
          rcases Int.lt_or_le (turn a b y) 0 with q | q
          · exact q
          · have := mpp0 (Int.le_of_lt r) q; omega
      have e1 := mnn0 (Int.le_of_lt p) hb
      have e2 := mpn0 (Int.le_of_lt q) ha
      have e3 := mnp r.1 hx
      have e4 := mpp r.2 hy
      omega
    · rw [p] at k1; simp at k1
    · have q : turn x y b < 0 := by
        rcases Int.lt_or_le (turn x y b) 0 with q | q
        · exact q
        · have := mpp0 (Int.le_of_lt p) q; omega
      have r : 0 < turn a b y ∧ turn a b x < 0 := by
        rcases Int.lt_trichotomy (turn a b x) 0 with r | r | r
        · refine ⟨?_, r⟩
          rcases Int.lt_or_le 0 (turn a b y) with q | q
          · exact q
          · have := mnn0 (Int.le_of_lt r) q; omega
        · rw [r] at k2; simp at k2
        · have : turn a b y < 0 := by
            rcases Int.lt_or_le (turn a b y) 0 with q | q
            · exact q
            · have := mpp0 (Int.le_of_lt r) q; omega
          omega
      have e1 := mpn0 (Int.le_of_lt p) hb
      have e2 := mnn0 (Int.le_of_lt q) ha
      have e3 := mpp r.1 hx
      have e4 := mnp r.2 hy
      omega
theorem sq0 (z : Int) : 0 ≤ z * z := by
  rcases Int.le_total 0 z with k | k
  · exact mpp0 k k
  · exact mnn0 k k
/-- A point that is not on a side is parted from it by a line. -/
theorem sep_of_off {a b x : Int × Int} (h : onB a b x = false) : ∃ u v g : Int, u * a.1 + v * a.2 + g ≤ 0 ∧ u * b.1 + v * b.2 + g ≤ 0 ∧ 0 < u * x.1 + v * x.2 + g := by
  rcases Int.lt_trichotomy (turn a b x) 0 with k | k | k
  · refine ⟨b.2 - a.2, a.1 - b.1, - (b.2 - a.2) * a.1 - (a.1 - b.1) * a.2, ?_, ?_, ?_⟩
    · grind
    · grind
    · unfold turn at k; grind
  · have hd : 0 < dot x a b := by
      unfold onB at h
      rw [k] at h
      simpa using h
    unfold dot at hd
    have q1 := sq0 (a.1 - x.1); have q2 := sq0 (a.2 - x.2)
    have q3 := sq0 (b.1 - x.1); have q4 := sq0 (b.2 - x.2)
    refine ⟨-(a.1 + b.1 - 2 * x.1), -(a.2 + b.2 - 2 * x.2), 1 + (a.1 + b.1 - 2 * x.1) * x.1 + (a.2 + b.2 - 2 * x.2) * x.2, ?_, ?_, ?_⟩
    · have : -(a.1 + b.1 - 2 * x.1) * a.1 + -(a.2 + b.2 - 2 * x.2) * a.2 + (1 + (a.1 + b.1 - 2 * x.1) * x.1 + (a.2 + b.2 - 2 * x.2) * x.2) =
        1 - ((a.1 - x.1) * (a.1 - x.1) + (a.2 - x.2) * (a.2 - x.2) + ((a.1 - x.1) * (b.1 - x.1) + (a.2 - x.2) * (b.2 - x.2))) := by grind
      omega
    · have : -(a.1 + b.1 - 2 * x.1) * b.1 + -(a.2 + b.2 - 2 * x.2) * b.2 + (1 + (a.1 + b.1 - 2 * x.1) * x.1 + (a.2 + b.2 - 2 * x.2) * x.2) =
        1 - ((b.1 - x.1) * (b.1 - x.1) + (b.2 - x.2) * (b.2 - x.2) + ((a.1 - x.1) * (b.1 - x.1) + (a.2 - x.2) * (b.2 - x.2))) := by grind
      omega
    · grind
  · refine ⟨a.2 - b.2, b.1 - a.1, - (a.2 - b.2) * a.1 - (b.1 - a.1) * a.2, ?_, ?_, ?_⟩
    · grind
    · grind
    · unfold turn at k; grind
/-- A point with larger coordinates. -/
def sc (k : Int) (a : Int × Int) : Int × Int := (k * a.1, k * a.2)
/-- Near a point that is not on a side, seen large enough, nothing touches the side. -/
theorem near_apart {a b x : Int × Int} (h : onB a b x = false) (d e : Int × Int) : ∃ k0 : Int, ∀ k, k0 ≤ k → 0 < k →
    apart (k * x.1 + d.1, k * x.2 + d.2) (k * x.1 + e.1, k * x.2 + e.2) (sc k a) (sc k b) := by
  obtain ⟨u, v, g, ha, hb, hx⟩ := sep_of_off h
  refine ⟨1 + max 0 (-(u * d.1 + v * d.2)) + max 0 (-(u * e.1 + v * e.2)), fun k hk hk0 => ?_⟩
  have hk1 : k * 1 ≤ k * (u * x.1 + v * x.2 + g) := Int.mul_le_mul_of_nonneg_left (by omega) (by omega)
  refine apart_of_sep (u := u) (v := v) (g := k * g) ?_ ?_ ?_ ?_
  · have := mpn0 (Int.le_of_lt hk0) ha
    have e : u * (sc k a).1 + v * (sc k a).2 + k * g = k * (u * a.1 + v * a.2 + g) := by unfold sc; grind
    omega
  · have := mpn0 (Int.le_of_lt hk0) hb
    have e : u * (sc k b).1 + v * (sc k b).2 + k * g = k * (u * b.1 + v * b.2 + g) := by unfold sc; grind
    omega
  · have e : u * (k * x.1 + d.1) + v * (k * x.2 + d.2) + k * g = k * (u * x.1 + v * x.2 + g) + (u * d.1 + v * d.2) := by grind
    show 0 < u * (k * x.1 + d.1) + v * (k * x.2 + d.2) + k * g
    omega
  · have e' : u * (k * x.1 + e.1) + v * (k * x.2 + e.2) + k * g = k * (u * x.1 + v * x.2 + g) + (u * e.1 + v * e.2) := by grind
    show 0 < u * (k * x.1 + e.1) + v * (k * x.2 + e.2) + k * g
    omega
/-- A sum of the first n terms. -/
def sumN (f : Nat → Int) : Nat → Int
  | 0 => 0
  | n + 1 => sumN f n + f n
theorem sumN_congr {f g : Nat → Int} : ∀ {n : Nat}, (∀ i, i < n → f i = g i) → sumN f n = sumN g n
  | 0, _ => rfl
  | n + 1, h => by rw [sumN, sumN, sumN_congr (fun i hi => h i (by omega)), h n (by omega)]
theorem sumN_sub {f g : Nat → Int} : ∀ {n : Nat}, sumN (fun i => f i - g i) n = sumN f n - sumN g n
  | 0 => rfl
  | n + 1 => by rw [sumN, sumN, sumN, sumN_sub]; omega
theorem sumN_add {f g : Nat → Int} : ∀ {n : Nat}, sumN (fun i => f i + g i) n = sumN f n + sumN g n
  | 0 => rfl
  | n + 1 => by rw [sumN, sumN, sumN, sumN_add]; omega
theorem sumN_zero {f : Nat → Int} : ∀ {n : Nat}, (∀ i, i < n → f i = 0) → sumN f n = 0
  | 0, _ => rfl
  | n + 1, h => by rw [sumN, sumN_zero (fun i hi => h i (by omega)), h n (by omega)]; rfl
theorem sumN_tele (f : Nat → Int) : ∀ n : Nat, sumN (fun i => f (i + 1) - f i) n = f n - f 0
  | 0 => by simp [sumN]
  | n + 1 => by rw [sumN, sumN_tele]; omega
theorem sumN_one {f : Nat → Int} {i : Nat} : ∀ {n : Nat}, i < n → (∀ j, j < n → j ≠ i → f j = 0) → sumN f n = f i
  | 0, h, _ => by omega
  | n + 1, h, hz => by
    rw [sumN]
    by_cases e : i = n
    · subst e; rw [sumN_zero (fun j hj => hz j (by omega) (by omega))]; omega
    · rw [sumN_one (n := n) (by omega) (fun j hj hn => hz j (by omega) hn), hz n (by omega) (by omega)]; omega
theorem sumN_two {f : Nat → Int} {i k n : Nat} (hi : i < n) (hk : k < n) (hik : i ≠ k) (hz : ∀ j, j < n → j ≠ i → j ≠ k → f j = 0) : sumN f n = f i + f k := by
  have h1 : sumN (fun j => f j - (if j = i then f i else 0)) n = f k := by
    rw [sumN_one hk (fun j hj hn => ?_)]
    · rw [if_neg (fun h => hik h.symm)]; omega
    · by_cases e : j = i
      · subst e; simp
      · rw [if_neg e, hz j hj e hn]; rfl
  rw [sumN_sub, sumN_one (i := i) hi (fun j _ hn => if_neg hn), if_pos rfl] at h1
  omega
/-- How often a closed way goes round a point. -/
def wsum (p : Nat → Int × Int) (n : Nat) (x : Int × Int) : Int := sumN (fun i => cr x (p i) (p (i + 1))) n
/-- A plot: its corners are met again after n steps. -/
structure Simple (p : Nat → Int × Int) (n : Nat) : Prop where
  three : 3 ≤ n
  per : ∀ i, p (i + n) = p i
  inj : ∀ i j, i < n → j < n → p i = p j → i = j
  spike : ∀ i, ¬ (turn (p i) (p (i + 1)) (p (i + 2)) = 0 ∧ 0 < dot (p (i + 1)) (p i) (p (i + 2)))
  free : ∀ i j, i < n → j < n → j ≠ i → (j + 1) % n ≠ i → (i + 1) % n ≠ j → apart (p i) (p (i + 1)) (p j) (p (j + 1))
theorem turn_sc (k : Int) (a b c : Int × Int) : turn (sc k a) (sc k b) (sc k c) = k * k * turn a b c := by unfold turn sc; grind
theorem dot_sc (k : Int) (a b c : Int × Int) : dot (sc k a) (sc k b) (sc k c) = k * k * dot a b c := by unfold dot sc; grind
theorem sign_mul {k t : Int} (hk : 0 < k) : (0 < k * t ↔ 0 < t) ∧ (k * t < 0 ↔ t < 0) ∧ (k * t = 0 ↔ t = 0) := by
  rcases Int.lt_trichotomy t 0 with h | h | h
  · have := mpn hk h; exact ⟨by omega, by omega, by omega⟩
  · subst h; simp
  · have := mpp hk h; exact ⟨by omega, by omega, by omega⟩
theorem onB_sc {k : Int} (hk : 0 < k) (a b x : Int × Int) : onB (sc k a) (sc k b) (sc k x) = onB a b x := by
  unfold onB
  rw [turn_sc, dot_sc]
  have hkk := mpp hk hk
  obtain ⟨h1, h2, h3⟩ := sign_mul (t := turn a b x) hkk
  obtain ⟨g1, g2, g3⟩ := sign_mul (t := dot x a b) hkk
  have e1 : (k * k * turn a b x == 0) = (turn a b x == 0) := by rw [Bool.eq_iff_iff]; simpa using h3
  have e2 : decide (k * k * dot x a b ≤ 0) = decide (dot x a b ≤ 0) := by rw [Bool.eq_iff_iff]; simp only [decide_eq_true_iff]; omega
  rw [e1, e2]
theorem apart_sc {k : Int} (hk : 0 < k) {x y a b : Int × Int} (h : apart x y a b) : apart (sc k x) (sc k y) (sc k a) (sc k b) := by
  obtain ⟨h1, h2, h3, h4, h5⟩ := h
  refine ⟨by rw [onB_sc hk]; exact h1, by rw [onB_sc hk]; exact h2, by rw [onB_sc hk]; exact h3, by rw [onB_sc hk]; exact h4, ?_⟩
  rw [turn_sc, turn_sc, turn_sc, turn_sc]
  have hkk := mpp (mpp hk hk) (mpp hk hk)
  have e1 : k * k * turn x y a * (k * k * turn x y b) = (k * k * (k * k)) * (turn x y a * turn x y b) := by grind
  have e2 : k * k * turn a b x * (k * k * turn a b y) = (k * k * (k * k)) * (turn a b x * turn a b y) := by grind
  rw [e1, e2, (sign_mul hkk).2.1, (sign_mul hkk).2.1]
  exact h5
theorem cr_sc {k : Int} (hk : 0 < k) (x a b : Int × Int) : cr (sc k x) (sc k a) (sc k b) = cr x a b := by
  unfold cr
  rw [turn_sc]
  obtain ⟨h1, h2, h3⟩ := sign_mul (t := turn a b x) (mpp hk hk)
  have e : ∀ u v : Int × Int, ((sc k u).2 ≤ (sc k v).2 ↔ u.2 ≤ v.2) ∧ ((sc k u).2 < (sc k v).2 ↔ u.2 < v.2) := fun u v => by
    unfold sc
    exact ⟨Int.mul_le_mul_left hk, Int.mul_lt_mul_left hk⟩
  simp only [(e _ _).1, (e _ _).2, h1, h2]
theorem sc_inj {k : Int} (hk : 0 < k) {a b : Int × Int} (h : sc k a = sc k b) : a = b := by
  unfold sc at h
  rw [Prod.mk.injEq] at h
  exact Prod.ext (Int.eq_of_mul_eq_mul_left (by omega) h.1) (Int.eq_of_mul_eq_mul_left (by omega) h.2)
theorem Simple.scale {p : Nat → Int × Int} {n : Nat} (h : Simple p n) {k : Int} (hk : 0 < k) : Simple (fun i => sc k (p i)) n := by
  refine ⟨h.three, fun i => by rw [h.per], fun i j hi hj e => h.inj i j hi hj (sc_inj hk e), fun i => ?_, fun i j hi hj h1 h2 h3 => apart_sc hk (h.free i j hi hj h1 h2 h3)⟩
  rw [turn_sc, dot_sc, (sign_mul (mpp hk hk)).1, (sign_mul (mpp hk hk)).2.2]
  exact h.spike i
theorem wsum_sc {k : Int} (hk : 0 < k) (p : Nat → Int × Int) (n : Nat) (x : Int × Int) : wsum (fun i => sc k (p i)) n (sc k x) = wsum p n x :=
  sumN_congr fun _ _ => cr_sc hk _ _ _
theorem sc_sc (k l : Int) (a : Int × Int) : sc k (sc l a) = sc (k * l) a := by unfold sc; simp [Int.mul_assoc]
theorem sc_one (a : Int × Int) : sc 1 a = a := by unfold sc; simp
/-- A way that no side touches: it is gone round both ends alike. -/
theorem wsum_free {p : Nat → Int × Int} {n : Nat} (hper : p n = p 0) {x y : Int × Int} (h : ∀ i, i < n → apart x y (p i) (p (i + 1))) : wsum p n x = wsum p n y := by
  have main : ∀ x y : Int × Int, x.2 ≤ y.2 → (∀ i, i < n → apart x y (p i) (p (i + 1))) → wsum p n x = wsum p n y := fun x y hxy h => by
    have e : sumN (fun i => cr x (p i) (p (i + 1)) - cr y (p i) (p (i + 1))) n = sumN (fun i => reg x y (p (i + 1)) - reg x y (p i)) n :=
      sumN_congr fun i hi => cross hxy (h i hi)
    rw [sumN_sub, sumN_tele (fun i => reg x y (p i)), hper] at e
    unfold wsum; omega
  rcases Int.le_total x.2 y.2 with k | k
  · exact main x y k h
  · refine (main y x k fun i hi => ?_).symm
    obtain ⟨h1, h2, h3, h4, h5⟩ := h i hi
    refine ⟨h2, h1, by rw [onB_swap]; exact h3, by rw [onB_swap]; exact h4, ?_⟩
    rw [turn_swap x y (p i), turn_swap x y (p (i + 1)), Int.neg_mul_neg, Int.mul_comm (turn (p i) (p (i + 1)) y)]
    exact h5
theorem dot_pos_of_off {a b x : Int × Int} (h : onB a b x = false) (k : turn a b x = 0) : 0 < dot x a b := by
  unfold onB at h
  rw [k] at h
  simpa using h
theorem col_same {x y a b : Int × Int} (h : onB x y a = false) (k : turn x y a = 0) (kb : turn x y b ≠ 0) : 0 < turn a b x * turn a b y := by
  have hd := dot_pos_of_off h k
  have h0 := id0 a b x y
  have h1 := id1 a b x y a.1
  have h2 := id2 a b x y a.2
  rw [k] at h0 h1 h2
  simp only [Int.zero_mul, Int.sub_self, Int.mul_zero] at h1 h2
  have key : turn a b y * dot a x y = turn a b x * ((y.1 - a.1) * (y.1 - a.1) + (y.2 - a.2) * (y.2 - a.2)) := by unfold dot; grind
  have q1 := sq0 (y.1 - a.1); have q2 := sq0 (y.2 - a.2)
  have hq : 0 < (y.1 - a.1) * (y.1 - a.1) + (y.2 - a.2) * (y.2 - a.2) := by
    rcases Int.lt_or_le 0 ((y.1 - a.1) * (y.1 - a.1) + (y.2 - a.2) * (y.2 - a.2)) with c | c
    · exact c
    · have r1 : (y.1 - a.1) * (y.1 - a.1) = 0 := by omega
      have r2 : (y.2 - a.2) * (y.2 - a.2) = 0 := by omega
      have s1 : y.1 - a.1 = 0 := by rcases Int.mul_eq_zero.1 r1 with k | k <;> exact k
      have s2 : y.2 - a.2 = 0 := by rcases Int.mul_eq_zero.1 r2 with k | k <;> exact k
      unfold dot at hd; rw [s1, s2] at hd; simp at hd
  generalize hY : turn a b y = SY at *
  generalize hX : turn a b x = SX at *
  rcases Int.lt_trichotomy SX 0 with c | c | c
  · have := mnp c hq
    have : SY * dot a x y < 0 := by omega
    exact mnn c (fneg this hd)
  · exfalso
    rw [c, Int.zero_mul] at key
    rcases Int.mul_eq_zero.1 key with c' | c' <;> omega
  · have := mpp c hq
    have : 0 < SY * dot a x y := by omega
    exact mpp c (fpos this hd)
theorem lagr1 (x y b : Int × Int) : dot b x y * ((y.1 - x.1) * (y.1 - x.1) + (y.2 - x.2) * (y.2 - x.2)) =
    ((b.1 - x.1) * (y.1 - x.1) + (b.2 - x.2) * (y.2 - x.2)) * (((b.1 - x.1) * (y.1 - x.1) + (b.2 - x.2) * (y.2 - x.2)) - ((y.1 - x.1) * (y.1 - x.1) + (y.2 - x.2) * (y.2 - x.2))) + turn x y b * turn x y b := by
  unfold dot turn; grind
theorem lagr2 (x y a b : Int × Int) : dot x a b * ((y.1 - x.1) * (y.1 - x.1) + (y.2 - x.2) * (y.2 - x.2)) =
    ((a.1 - x.1) * (y.1 - x.1) + (a.2 - x.2) * (y.2 - x.2)) * ((b.1 - x.1) * (y.1 - x.1) + (b.2 - x.2) * (y.2 - x.2)) + turn x y a * turn x y b := by
  unfold dot turn; grind
theorem sep_turn {x y a b : Int × Int} (h : 0 < turn a b x * turn a b y) : ∃ u v g : Int, u * a.1 + v * a.2 + g ≤ 0 ∧ u * b.1 + v * b.2 + g ≤ 0 ∧ 0 < u * x.1 + v * x.2 + g ∧ 0 < u * y.1 + v * y.2 + g := by
  rcases Int.lt_trichotomy (turn a b x) 0 with k | k | k
  · have k' : turn a b y < 0 := by
      rcases Int.lt_or_le (turn a b y) 0 with c | c
      · exact c
      · have := mnp0 (Int.le_of_lt k) c; omega
    refine ⟨b.2 - a.2, a.1 - b.1, - (b.2 - a.2) * a.1 - (a.1 - b.1) * a.2, by grind, by grind, ?_, ?_⟩
    · unfold turn at k; grind
    · unfold turn at k'; grind
  · rw [k] at h; simp at h
  · have k' : 0 < turn a b y := by
      rcases Int.lt_or_le 0 (turn a b y) with c | c
      · exact c
      · have := mpn0 (Int.le_of_lt k) c; omega
    refine ⟨a.2 - b.2, b.1 - a.1, - (a.2 - b.2) * a.1 - (b.1 - a.1) * a.2, by grind, by grind, ?_, ?_⟩
    · unfold turn at k; grind
    · unfold turn at k'; grind
theorem apart_symm {x y a b : Int × Int} (h : apart x y a b) : apart a b x y := by
  obtain ⟨h1, h2, h3, h4, h5⟩ := h
  exact ⟨h3, h4, h1, h2, fun ⟨g1, g2⟩ => h5 ⟨g2, g1⟩⟩
/-- Two sides that do not touch are parted by a line. -/
theorem sep_of_apart {x y a b : Int × Int} (h : apart x y a b) : ∃ u v g : Int, u * a.1 + v * a.2 + g ≤ 0 ∧ u * b.1 + v * b.2 + g ≤ 0 ∧ 0 < u * x.1 + v * x.2 + g ∧ 0 < u * y.1 + v * y.2 + g := by
  have flip : ∀ {x y a b : Int × Int}, (∃ u v g : Int, u * a.1 + v * a.2 + g ≤ 0 ∧ u * b.1 + v * b.2 + g ≤ 0 ∧ 0 < u * x.1 + v * x.2 + g ∧ 0 < u * y.1 + v * y.2 + g) →
      ∃ u v g : Int, u * x.1 + v * x.2 + g ≤ 0 ∧ u * y.1 + v * y.2 + g ≤ 0 ∧ 0 < u * a.1 + v * a.2 + g ∧ 0 < u * b.1 + v * b.2 + g := by
    rintro x y a b ⟨u, v, g, h1, h2, h3, h4⟩
    refine ⟨-u, -v, 1 - g, ?_, ?_, ?_, ?_⟩ <;> (simp only [Int.neg_mul]; omega)
  obtain ⟨h1, h2, h3, h4, h5⟩ := h
  by_cases ka : turn x y a = 0
  · by_cases kb : turn x y b = 0
    · by_cases kx : turn a b x = 0
      · have h0 := id0 a b x y
        have ky : turn a b y = 0 := by omega
        by_cases hxy : x = y
        · subst hxy
          obtain ⟨u, v, g, g1, g2, g3⟩ := sep_of_off h1
          exact ⟨u, v, g, g1, g2, g3, g3⟩
        · have d1 := dot_pos_of_off h3 ka
          have d2 := dot_pos_of_off h4 kb
          have d3 := dot_pos_of_off h1 kx
          have hr : 0 < (y.1 - x.1) * (y.1 - x.1) + (y.2 - x.2) * (y.2 - x.2) := by
            have q1 := sq0 (y.1 - x.1); have q2 := sq0 (y.2 - x.2)
            rcases Int.lt_or_le 0 ((y.1 - x.1) * (y.1 - x.1) + (y.2 - x.2) * (y.2 - x.2)) with c | c
            · exact c
            · have r1 : (y.1 - x.1) * (y.1 - x.1) = 0 := by omega
              have r2 : (y.2 - x.2) * (y.2 - x.2) = 0 := by omega
              have s1 : y.1 - x.1 = 0 := by rcases Int.mul_eq_zero.1 r1 with k | k <;> exact k
              have s2 : y.2 - x.2 = 0 := by rcases Int.mul_eq_zero.1 r2 with k | k <;> exact k
              exact absurd (Prod.ext (by omega) (by omega)) hxy
          obtain ⟨R, hR⟩ : ∃ R, R = (y.1 - x.1) * (y.1 - x.1) + (y.2 - x.2) * (y.2 - x.2) := ⟨_, rfl⟩
          obtain ⟨A, hA⟩ : ∃ A, A = (a.1 - x.1) * (y.1 - x.1) + (a.2 - x.2) * (y.2 - x.2) := ⟨_, rfl⟩
          obtain ⟨B, hB⟩ : ∃ B, B = (b.1 - x.1) * (y.1 - x.1) + (b.2 - x.2) * (y.2 - x.2) := ⟨_, rfl⟩
          have e1 : dot a x y * R = A * (A - R) := by subst hR hA; rw [lagr1, ka]; simp
          have e2 : dot b x y * R = B * (B - R) := by subst hR hB; rw [lagr1, kb]; simp
          have e3 : dot x a b * R = A * B := by subst hR hA hB; rw [lagr2, ka]; simp
          rw [← hR] at hr
          have p1 := mpp d1 hr
          have p2 := mpp d2 hr
          have p3 := mpp d3 hr
          rw [e1] at p1; rw [e2] at p2; rw [e3] at p3
          have split : ∀ Z : Int, 0 < Z * (Z - R) → Z < 0 ∨ R < Z := fun Z hZ => by
            rcases Int.lt_or_le Z 0 with c | c
            · exact .inl c
            · rcases Int.lt_or_le R Z with c' | c'
              · exact .inr c'
              · have := mpn0 c (b := Z - R) (by omega); omega
          rcases split A p1 with c | c
          · have cb : B < 0 := by
              rcases split B p2 with c' | c'
              · exact c'
              · have := mnp c (b := B) (by omega); omega
            refine ⟨y.1 - x.1, y.2 - x.2, 1 - x.1 * (y.1 - x.1) - x.2 * (y.2 - x.2), ?_, ?_, ?_, ?_⟩
            · grind
            · grind
            · grind
            · grind
          · have cb : R < B := by
              rcases split B p2 with c' | c'
              · have := mpn (a := A) (by omega) c'; omega
              · exact c'
            refine ⟨-(y.1 - x.1), -(y.2 - x.2), R + 1 + x.1 * (y.1 - x.1) + x.2 * (y.2 - x.2), ?_, ?_, ?_, ?_⟩
            · grind
            · grind
            · grind
            · grind
      · have h0 := id0 a b x y
        refine sep_turn ?_
        have : turn a b y = turn a b x := by omega
        rw [this]
        rcases Int.lt_trichotomy (turn a b x) 0 with c | c | c
        · exact mnn c c
        · exact absurd c kx
        · exact mpp c c
    · exact sep_turn (col_same h3 ka kb)
  · by_cases kb : turn x y b = 0
    · have := col_same (b := a) h4 kb ka
      rw [turn_swap a b x, turn_swap a b y, Int.neg_mul_neg] at this
      exact sep_turn this
    · rcases Int.lt_or_le 0 (turn x y a * turn x y b) with c | c
      · exact flip (sep_turn c)
      · have cn : turn x y a * turn x y b < 0 := by
          rcases Int.lt_or_le (turn x y a * turn x y b) 0 with c' | c'
          · exact c'
          · rcases Int.mul_eq_zero.1 (show turn x y a * turn x y b = 0 by omega) with z | z
            · exact absurd z ka
            · exact absurd z kb
        by_cases kx : turn a b x = 0
        · by_cases ky : turn a b y = 0
          · exfalso
            have h0 := id0 a b x y
            have : turn x y a = turn x y b := by omega
            rw [this] at cn; have := sq0 (turn x y b); omega
          · exact flip (sep_turn (col_same h1 kx ky))
        · by_cases ky : turn a b y = 0
          · have := col_same (b := x) h2 ky kx
            rw [turn_swap x y a, turn_swap x y b, Int.neg_mul_neg] at this
            exact flip (sep_turn this)
          · rcases Int.lt_or_le 0 (turn a b x * turn a b y) with c' | c'
            · exact sep_turn c'
            · exfalso
              refine h5 ⟨cn, ?_⟩
              rcases Int.lt_or_le (turn a b x * turn a b y) 0 with d | d
              · exact d
              · rcases Int.mul_eq_zero.1 (show turn a b x * turn a b y = 0 by omega) with z | z
                · exact absurd z kx
                · exact absurd z ky
theorem seg_pos {a b x : Int × Int} {u v g : Int} (h : onB a b x = true) (ha : 0 < u * a.1 + v * a.2 + g) (hb : 0 < u * b.1 + v * b.2 + g) : 0 < u * x.1 + v * x.2 + g := by
  have := seg_le (u := -u) (v := -v) (g := 1 - g) h (by simp only [Int.neg_mul]; omega) (by simp only [Int.neg_mul]; omega)
  simp only [Int.neg_mul] at this; omega
/-- A part of a side touches no more than the side does. -/
theorem apart_part {a b c d x y : Int × Int} (h : apart a b c d) (hx : onB a b x = true) (hy : onB a b y = true) : apart x y c d := by
  obtain ⟨u, v, g, h1, h2, h3, h4⟩ := sep_of_apart h
  exact apart_of_sep h1 h2 (seg_pos hx h3 h4) (seg_pos hy h3 h4)
end Go.Proofs.Ythiemglckmociaa
/- Plain geometry of plots, second part: a border goes round a point once or not at all. No program in sight. No conditions. -/
namespace Go.Proofs.Ythiemglckmociaa
/-- A side that leads upward, or along the ground to the left. -/
def up (a b : Int × Int) : Int := if a.2 < b.2 ∨ (a.2 = b.2 ∧ b.1 < a.1) then 1 else 0
/-- A point inside a side: on it, and no end of it. -/
def inn (a b x : Int × Int) : Prop := onB a b x = true ∧ x ≠ a ∧ x ≠ b
theorem Simple.per_mul {p : Nat → Int × Int} {n : Nat} (h : Simple p n) (i : Nat) : ∀ k, p (i + n * k) = p i
  | 0 => by simp
  | k + 1 => by rw [Nat.mul_add, Nat.mul_one, ← Nat.add_assoc, h.per, h.per_mul i k]
theorem Simple.mod {p : Nat → Int × Int} {n : Nat} (h : Simple p n) (i : Nat) : p (i % n) = p i := by
  have := h.per_mul (i % n) (i / n)
  rw [Nat.mod_add_div] at this; exact this.symm
theorem Simple.ne {p : Nat → Int × Int} {n : Nat} (h : Simple p n) {i j : Nat} (hij : i % n ≠ j % n) : p i ≠ p j := by
  intro e
  have h3 := h.three
  rw [← h.mod i, ← h.mod j] at e
  exact hij (h.inj _ _ (Nat.mod_lt _ (by omega)) (Nat.mod_lt _ (by omega)) e)
/-- Corners are named anew. -/
theorem Simple.shift {p : Nat → Int × Int} {n : Nat} (h : Simple p n) (m : Nat) : Simple (fun i => p (i + m)) n := by
  have h3 := h.three
  have hm : ∀ k, p ((k + m) % n) = p (k + m) := fun k => h.mod _
  have hm1 : ∀ k, p ((k + m) % n + 1) = p (k + 1 + m) := fun k => by
    rw [← h.mod ((k + m) % n + 1), Nat.mod_add_mod, h.mod]; congr 1; omega
  have md : ∀ i j, i < n → j < n → (i + m) % n = (j + m) % n → i = j := fun i j hi hj e => by
    have h1 := Nat.mod_add_div (i + m) n
    have h2 := Nat.mod_add_div (j + m) n
    rcases Nat.lt_trichotomy ((i + m) / n) ((j + m) / n) with c | c | c
    · have := Nat.mul_le_mul_left n (show (i + m) / n + 1 ≤ (j + m) / n by omega)
      rw [Nat.mul_add, Nat.mul_one] at this; omega
    · rw [c] at h1; omega
    · have := Nat.mul_le_mul_left n (show (j + m) / n + 1 ≤ (i + m) / n by omega)
      rw [Nat.mul_add, Nat.mul_one] at this; omega
  have ml : ∀ k, (k + m) % n < n := fun k => Nat.mod_lt _ (by omega)
  refine ⟨h3, fun i => ?_, fun i j hi hj e => ?_, fun i => ?_, fun i j hi hj h1 h2 h4 => ?_⟩
  · show p (i + n + m) = p (i + m)
    rw [show i + n + m = i + m + n by omega, h.per]
  · by_cases hne : (i + m) % n = (j + m) % n
    · exact md i j hi hj hne
    · exact absurd e (h.ne hne)
  · have := h.spike (i + m)
    rw [show i + m + 1 = i + 1 + m by omega, show i + m + 2 = i + 2 + m by omega] at this
    exact this
  · have := h.free ((i + m) % n) ((j + m) % n) (ml i) (ml j) (fun e => h1 (md _ _ hj hi e)) (fun e => h2 ?_) (fun e => h4 ?_)
    · rw [hm, hm, hm1, hm1] at this; exact this
    · rw [Nat.mod_add_mod] at e
      have := md ((j + 1) % n) i (Nat.mod_lt _ (by omega)) hi (by rw [Nat.mod_add_mod, show j + 1 + m = j + m + 1 by omega]; exact e)
      exact this
    · rw [Nat.mod_add_mod] at e
      exact md ((i + 1) % n) j (Nat.mod_lt _ (by omega)) hj (by rw [Nat.mod_add_mod, show i + 1 + m = i + m + 1 by omega]; exact e)
theorem sumN_shift1 {f : Nat → Int} {n : Nat} (h : f n = f 0) : sumN (fun i => f (i + 1)) n = sumN f n := by
  have := sumN_tele f n
  rw [sumN_sub] at this; omega
theorem sumN_shift {f : Nat → Int} {n : Nat} (h : ∀ i, f (i + n) = f i) : ∀ m, sumN (fun i => f (i + m)) n = sumN f n
  | 0 => rfl
  | m + 1 => by
    rw [← sumN_shift h m, ← sumN_shift1 (f := fun i => f (i + m))]
    · exact sumN_congr fun i _ => by rw [show i + 1 + m = i + (m + 1) by omega]
    · show f (n + m) = f (0 + m)
      rw [show n + m = m + n by omega, h, Nat.zero_add]
theorem Simple.wsum_shift {p : Nat → Int × Int} {n : Nat} (h : Simple p n) (m : Nat) (x : Int × Int) : wsum (fun i => p (i + m)) n x = wsum p n x := by
  unfold wsum
  rw [← sumN_shift (f := fun i => cr x (p i) (p (i + 1))) (fun i => by rw [h.per, show i + n + 1 = i + 1 + n by omega, h.per]) m]
  exact sumN_congr fun i _ => by show cr x (p (i + m)) (p (i + 1 + m)) = _; rw [show i + 1 + m = i + m + 1 by omega]
theorem onB_turn {a b x : Int × Int} (h : onB a b x = true) : turn a b x = 0 ∧ dot x a b ≤ 0 := by
  unfold onB at h
  rw [Bool.and_eq_true] at h
  exact ⟨by simpa using h.1, of_decide_eq_true h.2⟩
theorem onB_mk {a b x : Int × Int} (h1 : turn a b x = 0) (h2 : dot x a b ≤ 0) : onB a b x = true := by
  unfold onB
  rw [Bool.and_eq_true]
  exact ⟨by simpa using h1, decide_eq_true h2⟩
theorem norm_pos {a b : Int × Int} (h : a ≠ b) : 0 < (b.1 - a.1) * (b.1 - a.1) + (b.2 - a.2) * (b.2 - a.2) := by
  have q1 := sq0 (b.1 - a.1); have q2 := sq0 (b.2 - a.2)
  rcases Int.lt_or_le 0 ((b.1 - a.1) * (b.1 - a.1) + (b.2 - a.2) * (b.2 - a.2)) with c | c
  · exact c
  · have r1 : (b.1 - a.1) * (b.1 - a.1) = 0 := by omega
    have r2 : (b.2 - a.2) * (b.2 - a.2) = 0 := by omega
    have s1 : b.1 - a.1 = 0 := by rcases Int.mul_eq_zero.1 r1 with k | k <;> exact k
    have s2 : b.2 - a.2 = 0 := by rcases Int.mul_eq_zero.1 r2 with k | k <;> exact k
    exact absurd (Prod.ext (by omega) (by omega)) h
/-- On a side: seen from an end, the other end lies in the same direction. -/
theorem on_ahead {a b x : Int × Int} (h : onB a b x = true) (hx : x ≠ a) : 0 < dot a b x := by
  obtain ⟨h1, h2⟩ := onB_turn h
  have := norm_pos (fun e => hx e.symm)
  have e : dot a b x = ((x.1 - a.1) * (x.1 - a.1) + (x.2 - a.2) * (x.2 - a.2)) - dot x a b := by unfold dot; grind
  omega
/-- Inside a side: apart from the next side. -/
theorem apart_next {a b c x y : Int × Int} (hs : ¬ (turn a b c = 0 ∧ 0 < dot b a c)) (hab : a ≠ b) (_hbc : b ≠ c) (hx : onB a b x = true) (hy : onB a b y = true) (hxb : x ≠ b) (hyb : y ≠ b) : apart x y b c := by
  have ex := onB_turn hx
  have ey := onB_turn hy
  by_cases ht : turn a b c = 0
  · have hd : dot b a c ≤ 0 := by
      rcases Int.lt_or_le 0 (dot b a c) with k | k
      · exact absurd ⟨ht, k⟩ hs
      · exact k
    have px := on_ahead (a := b) (b := a) (by rw [onB_swap]; exact hx) hxb
    have py := on_ahead (a := b) (b := a) (by rw [onB_swap]; exact hy) hyb
    unfold dot at hd px py
    refine apart_of_sep (u := a.1 - b.1) (v := a.2 - b.2) (g := - b.1 * (a.1 - b.1) - b.2 * (a.2 - b.2)) ?_ ?_ ?_ ?_
    · grind
    · grind
    · grind
    · grind
  · -- the sign of turn b c x is that of turn b c a
    have key : ∀ z, onB a b z = true → z ≠ b → 0 < turn b c z * turn b c a := fun z hz hzb => by
      have pz := on_ahead (a := b) (b := a) (by rw [onB_swap]; exact hz) hzb
      have ez := (onB_turn hz).1
      have e : turn b c z * ((a.1 - b.1) * (a.1 - b.1) + (a.2 - b.2) * (a.2 - b.2)) = turn b c a * dot b a z - turn a b z * dot b c a := by unfold dot turn; grind
      rw [ez, Int.zero_mul, Int.sub_zero] at e
      have np := norm_pos (fun h => hab h.symm)
      have hca : turn b c a ≠ 0 := by rw [turn_rot]; exact ht
      generalize turn b c a = A at *
      rcases Int.lt_trichotomy A 0 with k | k | k
      · have := mnp k pz
        exact mnn (fneg (b := (a.1 - b.1) * (a.1 - b.1) + (a.2 - b.2) * (a.2 - b.2)) (by omega) np) k
      · exact absurd k hca
      · have := mpp k pz
        exact mpp (fpos (b := (a.1 - b.1) * (a.1 - b.1) + (a.2 - b.2) * (a.2 - b.2)) (by omega) np) k
    have kx := key x hx hxb
    have ky := key y hy hyb
    have kxy : 0 < turn b c x * turn b c y := by
      generalize turn b c x = X at *
      generalize turn b c y = Y at *
      generalize turn b c a = A at *
      rcases Int.lt_trichotomy A 0 with k | k | k
      · have p1 : X < 0 := by
          rcases Int.lt_or_le X 0 with c | c
          · exact c
          · have := mpn0 c (Int.le_of_lt k); omega
        have p2 : Y < 0 := by
          rcases Int.lt_or_le Y 0 with c | c
          · exact c
          · have := mpn0 c (Int.le_of_lt k); omega
        exact mnn p1 p2
      · rw [k] at kx; simp at kx
      · exact mpp (fpos kx k) (fpos ky k)
    obtain ⟨u, v, g, h1, h2, h3, h4⟩ := sep_turn kxy
    exact apart_of_sep h1 h2 h3 h4
/-- Points inside the first side: apart from all other sides. -/
theorem Simple.apart_first {p : Nat → Int × Int} {n : Nat} (h : Simple p n) {x y : Int × Int} (hx : inn (p 0) (p 1) x) (hy : inn (p 0) (p 1) y) {j : Nat} (h0 : 0 < j) (hj : j < n) : apart x y (p j) (p (j + 1)) := by
  have h3 := h.three
  have e01 : p 0 ≠ p 1 := h.ne (by rw [Nat.zero_mod, Nat.mod_eq_of_lt (by omega)]; omega)
  by_cases c1 : j = 1
  · subst c1
    exact apart_next (h.spike 0) e01 (h.ne (by rw [Nat.mod_eq_of_lt (by omega), Nat.mod_eq_of_lt (by omega)]; omega)) hx.1 hy.1 hx.2.2 hy.2.2
  · by_cases c2 : j = n - 1
    · have en : p (j + 1) = p 0 := by rw [show j + 1 = 0 + n by omega, h.per]
      have e2 : p (j + 2) = p 1 := by rw [show j + 2 = 1 + n by omega, h.per]
      rw [en]
      refine apart_swap (apart_next (a := p 1) (b := p 0) (c := p j) ?_ (fun e => e01 e.symm) (h.ne (by rw [Nat.zero_mod, Nat.mod_eq_of_lt (by omega)]; omega)) (by rw [onB_swap]; exact hx.1) (by rw [onB_swap]; exact hy.1) hx.2.1 hy.2.1)
      have := h.spike j
      rw [en, e2] at this
      rintro ⟨k1, k2⟩
      refine this ⟨?_, ?_⟩
      · have : turn (p j) (p 0) (p 1) = - turn (p 1) (p 0) (p j) := by unfold turn; grind
        omega
      · have : dot (p 0) (p j) (p 1) = dot (p 0) (p 1) (p j) := by unfold dot; grind
        omega
    · exact apart_part (h.free 0 j (by omega) hj (by omega) (by rw [Nat.mod_eq_of_lt (by omega)]; omega) (by rw [Nat.mod_eq_of_lt (by omega)]; omega)) hx.1 hy.1
theorem cr_on {a b x : Int × Int} (h : turn a b x = 0) : cr x a b = 0 := by unfold cr; rw [h]; simp
theorem turn_col {a b x y c : Int × Int} (hab : a ≠ b) (hx : turn a b x = 0) (hy : turn a b y = 0) (hc : turn a b c = 0) : turn x y c = 0 := by
  have np := norm_pos hab
  have e : turn x y c * ((b.1 - a.1) * (b.1 - a.1) + (b.2 - a.2) * (b.2 - a.2)) =
      (dot a b y - dot a b x) * (turn a b c - turn a b x) - (turn a b y - turn a b x) * (dot a b c - dot a b x) := by unfold turn dot; grind
  rw [hx, hy, hc] at e
  simp only [Int.sub_self, Int.mul_zero, Int.zero_mul] at e
  rcases Int.mul_eq_zero.1 e with e | e
  · exact e
  · omega
/-- Points inside a side are gone round alike. -/
theorem Simple.inside_first {p : Nat → Int × Int} {n : Nat} (h : Simple p n) {x y : Int × Int} (hx : inn (p 0) (p 1) x) (hy : inn (p 0) (p 1) y) : wsum p n x = wsum p n y := by
  have h3 := h.three
  have e01 : p 0 ≠ p 1 := h.ne (by rw [Nat.zero_mod, Nat.mod_eq_of_lt (by omega)]; omega)
  have main : ∀ x y : Int × Int, x.2 ≤ y.2 → inn (p 0) (p 1) x → inn (p 0) (p 1) y → wsum p n x = wsum p n y := fun x y hxy hx hy => by
    have e : sumN (fun i => cr x (p i) (p (i + 1)) - cr y (p i) (p (i + 1))) n = sumN (fun i => reg x y (p (i + 1)) - reg x y (p i)) n :=
      sumN_congr fun i hi => by
        by_cases c : i = 0
        · subst c
          have tx := (onB_turn hx.1).1
          have ty := (onB_turn hy.1).1
          have t0 : turn x y (p 0) = 0 := turn_col e01 tx ty (by unfold turn; simp)
          have t1 : turn x y (p 1) = 0 := turn_col e01 tx ty (by unfold turn; grind)
          show cr x (p 0) (p 1) - cr y (p 0) (p 1) = reg x y (p 1) - reg x y (p 0)
          rw [cr_on tx, cr_on ty]
          unfold reg
          rw [t0, t1]; simp
        · exact cross hxy (h.apart_first hx hy (by omega) hi)
    have hper : p n = p 0 := by rw [show n = 0 + n by omega, h.per]
    rw [sumN_sub, sumN_tele (fun i => reg x y (p i)), hper] at e
    unfold wsum; omega
  rcases Int.le_total x.2 y.2 with k | k
  · exact main x y k hx hy
  · exact (main y x k hy hx).symm
/-- A corner is on no side but its own two. -/
theorem Simple.corner_off {p : Nat → Int × Int} {n : Nat} (h : Simple p n) {j : Nat} (h1 : 1 < j) (hj : j < n) : onB (p j) (p (j + 1)) (p 1) = false := by
  have h3 := h.three
  by_cases c : j = 2
  · subst c
    by_cases c3 : n = 3
    · subst c3
      -- a triangle: its corners are not on one line
      cases ho : onB (p 2) (p 3) (p 1)
      · rfl
      · exfalso
        have e3 : p 3 = p 0 := h.per 0
        have e4 : p 4 = p 1 := h.per 1
        obtain ⟨k1, k2⟩ := onB_turn ho
        have := h.spike 2
        rw [show 2 + 1 = 3 by omega, show 2 + 2 = 4 by omega, e4] at this
        refine this ⟨k1, ?_⟩
        refine on_ahead (a := p 3) (b := p 2) (by rw [onB_swap]; exact ho) ?_
        exact h.ne (by decide)
    · have := h.free 0 2 (by omega) (by omega) (by omega) (by rw [Nat.mod_eq_of_lt (by omega)]; omega) (by rw [Nat.mod_eq_of_lt (by omega)]; omega)
      exact this.2.1
  · have := h.free 1 j (by omega) hj (by omega) (by
      by_cases e : j + 1 = n
      · rw [e, Nat.mod_self]; omega
      · rw [Nat.mod_eq_of_lt (by omega)]; omega) (by rw [Nat.mod_eq_of_lt (by omega)]; omega)
    exact this.1
/-- One bound for finitely many. -/
theorem bound_all {P : Nat → Int → Prop} : ∀ n : Nat, (∀ j, j < n → ∃ k0 : Int, ∀ k, k0 ≤ k → 0 < k → P j k) → ∃ k0 : Int, ∀ k, k0 ≤ k → 0 < k → ∀ j, j < n → P j k
  | 0, _ => ⟨0, fun _ _ _ _ h => by omega⟩
  | n + 1, h => by
    obtain ⟨k1, h1⟩ := bound_all n (fun j hj => h j (by omega))
    obtain ⟨k2, h2⟩ := h n (by omega)
    refine ⟨max k1 k2, fun k hk h0 j hj => ?_⟩
    by_cases e : j = n
    · subst e; exact h2 k (by omega) h0
    · exact h1 k (by omega) h0 j (by omega)
def upD (d1 d2 : Int) : Int := if d2 < 0 ∨ (d2 = 0 ∧ 0 < d1) then 1 else 0
def upE (e1 e2 : Int) : Int := if 0 < e2 ∨ (e2 = 0 ∧ e1 < 0) then 1 else 0
theorem vertex_signs {d1 d2 e1 e2 X : Int} (hX : X = d1 * e2 - d2 * e1) (hop : X = 0 → d1 * e1 + d2 * e2 < 0) :
    (d2 = 0 → 0 < e2 → (0 < X ↔ 0 < d1) ∧ (X < 0 ↔ d1 < 0)) ∧ (d2 = 0 → e2 < 0 → (0 < X ↔ d1 < 0) ∧ (X < 0 ↔ 0 < d1)) ∧
    (e2 = 0 → 0 < d2 → (0 < X ↔ e1 < 0) ∧ (X < 0 ↔ 0 < e1)) ∧ (e2 = 0 → d2 < 0 → (0 < X ↔ 0 < e1) ∧ (X < 0 ↔ e1 < 0)) ∧
    (d2 = 0 → e2 = 0 → X = 0 ∧ (0 < d1 ∧ e1 < 0 ∨ d1 < 0 ∧ 0 < e1)) ∧ (X = 0 → (0 < d2 → e2 ≤ 0) ∧ (d2 < 0 → 0 ≤ e2)) := by
  have key : ∀ s t : Int, 0 < t → (0 < s * t ↔ 0 < s) ∧ (s * t < 0 ↔ s < 0) := fun s t ht => by
    rw [Int.mul_comm]; exact ⟨(sign_mul ht).1, (sign_mul ht).2.1⟩
  refine ⟨fun h1 h2 => ?_, fun h1 h2 => ?_, fun h1 h2 => ?_, fun h1 h2 => ?_, fun h1 h2 => ?_, fun h => ⟨fun h1 => ?_, fun h1 => ?_⟩⟩
  · rw [h1] at hX; simp only [Int.zero_mul, Int.sub_zero] at hX; rw [hX]; exact key _ _ h2
  · rw [h1] at hX; simp only [Int.zero_mul, Int.sub_zero] at hX
    have : -X = d1 * -e2 := by grind
    have := key d1 (-e2) (by omega)
    omega
  · rw [h1] at hX; simp only [Int.mul_zero, Int.zero_sub] at hX
    have : -X = e1 * d2 := by grind
    have := key e1 d2 h2
    omega
  · rw [h1] at hX; simp only [Int.mul_zero, Int.zero_sub] at hX
    have : X = e1 * -d2 := by grind
    have := key e1 (-d2) (by omega)
    omega
  · rw [h1, h2] at hX; simp at hX
    have := hop hX
    rw [h1] at this; simp at this
    refine ⟨hX, ?_⟩
    rcases Int.lt_trichotomy d1 0 with c | c | c
    · right; refine ⟨c, ?_⟩
      rcases Int.lt_or_le 0 e1 with c' | c'
      · exact c'
      · have := mnn0 (Int.le_of_lt c) c'; omega
    · rw [c] at this; simp at this
    · left; refine ⟨c, ?_⟩
      rcases Int.lt_or_le e1 0 with c' | c'
      · exact c'
      · have := mpp0 (Int.le_of_lt c) c'; omega
  · rcases Int.lt_or_le 0 e2 with c | c
    · exfalso
      have h2 := hop h
      -- d1 e2 = d2 e1: d1 e1 is not below 0
      have e : (d1 * e1) * (d2 * e2) = (d1 * e2) * (d1 * e2) := by
        have : d1 * e2 = d2 * e1 := by omega
        have : (d1 * e1) * (d2 * e2) = (d1 * e2) * (d2 * e1) := by grind
        rw [this, ← ‹d1 * e2 = d2 * e1›]
      have q := sq0 (d1 * e2)
      have r := mpp h1 c
      have : d1 * e1 < 0 := by omega
      have := mnp this r
      omega
    · exact c
  · rcases Int.lt_or_le e2 0 with c | c
    · exfalso
      have h2 := hop h
      have e : (d1 * e1) * (d2 * e2) = (d1 * e2) * (d1 * e2) := by
        have : d1 * e2 = d2 * e1 := by omega
        have : (d1 * e1) * (d2 * e2) = (d1 * e2) * (d2 * e1) := by grind
        rw [this, ← ‹d1 * e2 = d2 * e1›]
      have q := sq0 (d1 * e2)
      have r := mnn h1 c
      have : d1 * e1 < 0 := by omega
      have := mnp this r
      omega
    · exact c
theorem vertex_cases {d1 d2 e1 e2 X : Int} (hX : X = d1 * e2 - d2 * e1) (hop : X = 0 → d1 * e1 + d2 * e2 < 0) {P : Prop}
    (h1 : d2 < 0 → e2 < 0 → X < 0 → P)
    (h2 : d2 < 0 → e2 < 0 → 0 < X → P)
    (h3 : d2 < 0 → e2 = 0 → 0 < e1 → 0 < X → P)
    (h4 : d2 < 0 → e2 = 0 → e1 < 0 → X < 0 → P)
    (h5 : d2 < 0 → 0 < e2 → X < 0 → P)
    (h6 : d2 < 0 → 0 < e2 → X = 0 → P)
    (h7 : d2 < 0 → 0 < e2 → 0 < X → P)
    (h8 : d2 = 0 → e2 < 0 → d1 < 0 → 0 < X → P)
    (h9 : d2 = 0 → e2 < 0 → 0 < d1 → X < 0 → P)
    (h10 : d2 = 0 → e2 = 0 → X = 0 → 0 < d1 → e1 < 0 → P)
    (h11 : d2 = 0 → e2 = 0 → X = 0 → d1 < 0 → 0 < e1 → P)
    (h12 : d2 = 0 → 0 < e2 → 0 < d1 → 0 < X → P)
    (h13 : d2 = 0 → 0 < e2 → d1 < 0 → X < 0 → P)
    (h14 : 0 < d2 → e2 < 0 → X < 0 → P)
    (h15 : 0 < d2 → e2 < 0 → X = 0 → P)
    (h16 : 0 < d2 → e2 < 0 → 0 < X → P)
    (h17 : 0 < d2 → e2 = 0 → e1 < 0 → 0 < X → P)
    (h18 : 0 < d2 → e2 = 0 → 0 < e1 → X < 0 → P)
    (h19 : 0 < d2 → 0 < e2 → X < 0 → P)
    (h20 : 0 < d2 → 0 < e2 → 0 < X → P) : P := by
  obtain ⟨s1, s2, s3, s4, s5, s6⟩ := vertex_signs hX hop
  have z1 : d2 = 0 → X = 0 → e2 = 0 := fun k1 k2 => by
    rw [k1] at hX; simp only [Int.zero_mul, Int.sub_zero] at hX
    have := hop k2
    rw [k1] at this; simp only [Int.zero_mul, Int.add_zero] at this
    rcases Int.mul_eq_zero.1 (show d1 * e2 = 0 by omega) with k | k
    · rw [k] at this; simp at this
    · exact k
  have z2 : e2 = 0 → X = 0 → d2 = 0 := fun k1 k2 => by
    rw [k1] at hX; simp only [Int.mul_zero, Int.zero_sub] at hX
    have := hop k2
    rw [k1] at this; simp only [Int.mul_zero, Int.add_zero] at this
    rcases Int.mul_eq_zero.1 (show d2 * e1 = 0 by omega) with k | k
    · exact k
    · rw [k] at this; simp at this
  clear hX hop
  rcases Int.lt_trichotomy d2 0 with cd | cd | cd
  · rcases Int.lt_trichotomy e2 0 with ce | ce | ce
    · rcases Int.lt_trichotomy X 0 with cx | cx | cx
      · exact h1 cd ce cx
      · have := (s6 cx).2 cd; omega
      · exact h2 cd ce cx
    · have t := s4 ce cd
      rcases Int.lt_trichotomy X 0 with cx | cx | cx
      · exact h4 cd ce (t.2.1 cx) cx
      · have := z2 ce cx; omega
      · exact h3 cd ce (t.1.1 cx) cx
    · rcases Int.lt_trichotomy X 0 with cx | cx | cx
      · exact h5 cd ce cx
      · exact h6 cd ce cx
      · exact h7 cd ce cx
  · rcases Int.lt_trichotomy e2 0 with ce | ce | ce
    · have t := s2 cd ce
      rcases Int.lt_trichotomy X 0 with cx | cx | cx
      · exact h9 cd ce (t.2.1 cx) cx
      · have := z1 cd cx; omega
      · exact h8 cd ce (t.1.1 cx) cx
    · obtain ⟨k1, ⟨k2, k3⟩ | ⟨k2, k3⟩⟩ := s5 cd ce
      · exact h10 cd ce k1 k2 k3
      · exact h11 cd ce k1 k2 k3
    · have t := s1 cd ce
      rcases Int.lt_trichotomy X 0 with cx | cx | cx
      · exact h13 cd ce (t.2.1 cx) cx
      · have := z1 cd cx; omega
      · exact h12 cd ce (t.1.1 cx) cx
  · rcases Int.lt_trichotomy e2 0 with ce | ce | ce
    · rcases Int.lt_trichotomy X 0 with cx | cx | cx
      · exact h14 cd ce cx
      · exact h15 cd ce cx
      · exact h16 cd ce cx
    · have t := s3 ce cd
      rcases Int.lt_trichotomy X 0 with cx | cx | cx
      · exact h18 cd ce (t.2.1 cx) cx
      · have := z2 ce cx; omega
      · exact h17 cd ce (t.1.1 cx) cx
    · rcases Int.lt_trichotomy X 0 with cx | cx | cx
      · exact h19 cd ce cx
      · have := (s6 cx).1 cd; omega
      · exact h20 cd ce cx
theorem big_neg {k d e f : Int} (h : d.natAbs + e.natAbs + f.natAbs < k) (c : d < 0) : k * d < e ∧ k * d < f := by
  have := Int.mul_le_mul_of_nonneg_left (show d ≤ -1 by omega) (show 0 ≤ k by omega)
  omega
theorem big_zero {k d : Int} (c : d = 0) : k * d = 0 := by rw [c]; simp
theorem big_pos {k d e f : Int} (h : d.natAbs + e.natAbs + f.natAbs < k) (c : 0 < d) : e < k * d ∧ f < k * d := by
  have := Int.mul_le_mul_of_nonneg_left (show 1 ≤ d by omega) (show 0 ≤ k by omega)
  omega
theorem vertex_le {d1 d2 e1 e2 k X : Int} (hX : X = d1 * e2 - d2 * e1) (hop : X = 0 → d1 * e1 + d2 * e2 < 0) (hk : 2 * d2.natAbs + 2 * e2.natAbs + 1 < k) (hle : d2 ≤ e2) :
    -(if k * d2 ≤ e2 ∧ e2 < 0 ∧ 0 < -(k * X) then (1 : Int) else if 0 ≤ e2 ∧ e2 < k * d2 ∧ -(k * X) < 0 then -1 else 0) +
      (if 0 ≤ d2 ∧ d2 < k * e2 ∧ 0 < -(k * X) then 1 else if k * e2 ≤ d2 ∧ d2 < 0 ∧ -(k * X) < 0 then -1 else 0) +
      (if d2 < k * d2 ∧ k * d2 ≤ e2 ∧ -((k - 1) * X) < 0 then 1 else 0) - (if d2 < k * e2 ∧ k * e2 ≤ e2 ∧ -((k - 1) * X) < 0 then 1 else 0) = upE e1 e2 - upD d1 d2 := by
  have hk1 : d2.natAbs + e2.natAbs + d2.natAbs < k := by omega
  have hk2 : e2.natAbs + e2.natAbs + d2.natAbs < k := by omega
  have hk3 : 0 < k := by omega
  have hk4 : 0 < k - 1 := by omega
  unfold upE upD
  refine vertex_cases hX hop ?_ ?_ ?_ ?_ ?_ ?_ ?_ ?_ ?_ ?_ ?_ ?_ ?_ ?_ ?_ ?_ ?_ ?_ ?_ ?_ <;> clear hX hop hk
  · intro c1 c2 c3; first | (exfalso; omega) | (have A := big_neg (e := e2) (f := d2) hk1 c1; have B := big_neg (e := e2) (f := d2) hk2 c2; have Y := mpn hk3 c3; have Z := mpn hk4 c3; clear hk1 hk2 hk3 hk4; generalize k * d2 = A1 at *; generalize k * e2 = B1 at *; generalize k * X = Y1 at *; generalize (k - 1) * X = Z1 at *; (repeat (first | rw [if_neg (by omega)] | rw [if_pos (by omega)])) <;> (try omega))
  · intro c1 c2 c3; first | (exfalso; omega) | (have A := big_neg (e := e2) (f := d2) hk1 c1; have B := big_neg (e := e2) (f := d2) hk2 c2; have Y := mpp hk3 c3; have Z := mpp hk4 c3; clear hk1 hk2 hk3 hk4; generalize k * d2 = A1 at *; generalize k * e2 = B1 at *; generalize k * X = Y1 at *; generalize (k - 1) * X = Z1 at *; (repeat (first | rw [if_neg (by omega)] | rw [if_pos (by omega)])) <;> (try omega))
  · intro c1 c2 c3 c4; first | (exfalso; omega) | (have A := big_neg (e := e2) (f := d2) hk1 c1; have B := big_zero (k := k) c2; have Y := mpp hk3 c4; have Z := mpp hk4 c4; clear hk1 hk2 hk3 hk4; generalize k * d2 = A1 at *; generalize k * e2 = B1 at *; generalize k * X = Y1 at *; generalize (k - 1) * X = Z1 at *; (repeat (first | rw [if_neg (by omega)] | rw [if_pos (by omega)])) <;> (try omega))
  · intro c1 c2 c3 c4; first | (exfalso; omega) | (have A := big_neg (e := e2) (f := d2) hk1 c1; have B := big_zero (k := k) c2; have Y := mpn hk3 c4; have Z := mpn hk4 c4; clear hk1 hk2 hk3 hk4; generalize k * d2 = A1 at *; generalize k * e2 = B1 at *; generalize k * X = Y1 at *; generalize (k - 1) * X = Z1 at *; (repeat (first | rw [if_neg (by omega)] | rw [if_pos (by omega)])) <;> (try omega))
  · intro c1 c2 c3; first | (exfalso; omega) | (have A := big_neg (e := e2) (f := d2) hk1 c1; have B := big_pos (e := e2) (f := d2) hk2 c2; have Y := mpn hk3 c3; have Z := mpn hk4 c3; clear hk1 hk2 hk3 hk4; generalize k * d2 = A1 at *; generalize k * e2 = B1 at *; generalize k * X = Y1 at *; generalize (k - 1) * X = Z1 at *; (repeat (first | rw [if_neg (by omega)] | rw [if_pos (by omega)])) <;> (try omega))
  · intro c1 c2 c3; first | (exfalso; omega) | (have A := big_neg (e := e2) (f := d2) hk1 c1; have B := big_pos (e := e2) (f := d2) hk2 c2; have Y := big_zero (k := k) c3; have Z := big_zero (k := k - 1) c3; clear hk1 hk2 hk3 hk4; generalize k * d2 = A1 at *; generalize k * e2 = B1 at *; generalize k * X = Y1 at *; generalize (k - 1) * X = Z1 at *; (repeat (first | rw [if_neg (by omega)] | rw [if_pos (by omega)])) <;> (try omega))
  · intro c1 c2 c3; first | (exfalso; omega) | (have A := big_neg (e := e2) (f := d2) hk1 c1; have B := big_pos (e := e2) (f := d2) hk2 c2; have Y := mpp hk3 c3; have Z := mpp hk4 c3; clear hk1 hk2 hk3 hk4; generalize k * d2 = A1 at *; generalize k * e2 = B1 at *; generalize k * X = Y1 at *; generalize (k - 1) * X = Z1 at *; (repeat (first | rw [if_neg (by omega)] | rw [if_pos (by omega)])) <;> (try omega))
  · intro c1 c2 c3 c4; first | (exfalso; omega) | (have A := big_zero (k := k) c1; have B := big_neg (e := e2) (f := d2) hk2 c2; have Y := mpp hk3 c4; have Z := mpp hk4 c4; clear hk1 hk2 hk3 hk4; generalize k * d2 = A1 at *; generalize k * e2 = B1 at *; generalize k * X = Y1 at *; generalize (k - 1) * X = Z1 at *; (repeat (first | rw [if_neg (by omega)] | rw [if_pos (by omega)])) <;> (try omega))
  · intro c1 c2 c3 c4; first | (exfalso; omega) | (have A := big_zero (k := k) c1; have B := big_neg (e := e2) (f := d2) hk2 c2; have Y := mpn hk3 c4; have Z := mpn hk4 c4; clear hk1 hk2 hk3 hk4; generalize k * d2 = A1 at *; generalize k * e2 = B1 at *; generalize k * X = Y1 at *; generalize (k - 1) * X = Z1 at *; (repeat (first | rw [if_neg (by omega)] | rw [if_pos (by omega)])) <;> (try omega))
  · intro c1 c2 c3 c4 c5; first | (exfalso; omega) | (have A := big_zero (k := k) c1; have B := big_zero (k := k) c2; have Y := big_zero (k := k) c3; have Z := big_zero (k := k - 1) c3; clear hk1 hk2 hk3 hk4; generalize k * d2 = A1 at *; generalize k * e2 = B1 at *; generalize k * X = Y1 at *; generalize (k - 1) * X = Z1 at *; (repeat (first | rw [if_neg (by omega)] | rw [if_pos (by omega)])) <;> (try omega))
  · intro c1 c2 c3 c4 c5; first | (exfalso; omega) | (have A := big_zero (k := k) c1; have B := big_zero (k := k) c2; have Y := big_zero (k := k) c3; have Z := big_zero (k := k - 1) c3; clear hk1 hk2 hk3 hk4; generalize k * d2 = A1 at *; generalize k * e2 = B1 at *; generalize k * X = Y1 at *; generalize (k - 1) * X = Z1 at *; (repeat (first | rw [if_neg (by omega)] | rw [if_pos (by omega)])) <;> (try omega))
  · intro c1 c2 c3 c4; first | (exfalso; omega) | (have A := big_zero (k := k) c1; have B := big_pos (e := e2) (f := d2) hk2 c2; have Y := mpp hk3 c4; have Z := mpp hk4 c4; clear hk1 hk2 hk3 hk4; generalize k * d2 = A1 at *; generalize k * e2 = B1 at *; generalize k * X = Y1 at *; generalize (k - 1) * X = Z1 at *; (repeat (first | rw [if_neg (by omega)] | rw [if_pos (by omega)])) <;> (try omega))
  · intro c1 c2 c3 c4; first | (exfalso; omega) | (have A := big_zero (k := k) c1; have B := big_pos (e := e2) (f := d2) hk2 c2; have Y := mpn hk3 c4; have Z := mpn hk4 c4; clear hk1 hk2 hk3 hk4; generalize k * d2 = A1 at *; generalize k * e2 = B1 at *; generalize k * X = Y1 at *; generalize (k - 1) * X = Z1 at *; (repeat (first | rw [if_neg (by omega)] | rw [if_pos (by omega)])) <;> (try omega))
  · intro c1 c2 c3; first | (exfalso; omega) | (have A := big_pos (e := e2) (f := d2) hk1 c1; have B := big_neg (e := e2) (f := d2) hk2 c2; have Y := mpn hk3 c3; have Z := mpn hk4 c3; clear hk1 hk2 hk3 hk4; generalize k * d2 = A1 at *; generalize k * e2 = B1 at *; generalize k * X = Y1 at *; generalize (k - 1) * X = Z1 at *; (repeat (first | rw [if_neg (by omega)] | rw [if_pos (by omega)])) <;> (try omega))
  · intro c1 c2 c3; first | (exfalso; omega) | (have A := big_pos (e := e2) (f := d2) hk1 c1; have B := big_neg (e := e2) (f := d2) hk2 c2; have Y := big_zero (k := k) c3; have Z := big_zero (k := k - 1) c3; clear hk1 hk2 hk3 hk4; generalize k * d2 = A1 at *; generalize k * e2 = B1 at *; generalize k * X = Y1 at *; generalize (k - 1) * X = Z1 at *; (repeat (first | rw [if_neg (by omega)] | rw [if_pos (by omega)])) <;> (try omega))
  · intro c1 c2 c3; first | (exfalso; omega) | (have A := big_pos (e := e2) (f := d2) hk1 c1; have B := big_neg (e := e2) (f := d2) hk2 c2; have Y := mpp hk3 c3; have Z := mpp hk4 c3; clear hk1 hk2 hk3 hk4; generalize k * d2 = A1 at *; generalize k * e2 = B1 at *; generalize k * X = Y1 at *; generalize (k - 1) * X = Z1 at *; (repeat (first | rw [if_neg (by omega)] | rw [if_pos (by omega)])) <;> (try omega))
  · intro c1 c2 c3 c4; first | (exfalso; omega) | (have A := big_pos (e := e2) (f := d2) hk1 c1; have B := big_zero (k := k) c2; have Y := mpp hk3 c4; have Z := mpp hk4 c4; clear hk1 hk2 hk3 hk4; generalize k * d2 = A1 at *; generalize k * e2 = B1 at *; generalize k * X = Y1 at *; generalize (k - 1) * X = Z1 at *; (repeat (first | rw [if_neg (by omega)] | rw [if_pos (by omega)])) <;> (try omega))
  · intro c1 c2 c3 c4; first | (exfalso; omega) | (have A := big_pos (e := e2) (f := d2) hk1 c1; have B := big_zero (k := k) c2; have Y := mpn hk3 c4; have Z := mpn hk4 c4; clear hk1 hk2 hk3 hk4; generalize k * d2 = A1 at *; generalize k * e2 = B1 at *; generalize k * X = Y1 at *; generalize (k - 1) * X = Z1 at *; (repeat (first | rw [if_neg (by omega)] | rw [if_pos (by omega)])) <;> (try omega))
  · intro c1 c2 c3; first | (exfalso; omega) | (have A := big_pos (e := e2) (f := d2) hk1 c1; have B := big_pos (e := e2) (f := d2) hk2 c2; have Y := mpn hk3 c3; have Z := mpn hk4 c3; clear hk1 hk2 hk3 hk4; generalize k * d2 = A1 at *; generalize k * e2 = B1 at *; generalize k * X = Y1 at *; generalize (k - 1) * X = Z1 at *; (repeat (first | rw [if_neg (by omega)] | rw [if_pos (by omega)])) <;> (try omega))
  · intro c1 c2 c3; first | (exfalso; omega) | (have A := big_pos (e := e2) (f := d2) hk1 c1; have B := big_pos (e := e2) (f := d2) hk2 c2; have Y := mpp hk3 c3; have Z := mpp hk4 c3; clear hk1 hk2 hk3 hk4; generalize k * d2 = A1 at *; generalize k * e2 = B1 at *; generalize k * X = Y1 at *; generalize (k - 1) * X = Z1 at *; (repeat (first | rw [if_neg (by omega)] | rw [if_pos (by omega)])) <;> (try omega))
theorem vertex_gt {d1 d2 e1 e2 k X : Int} (hX : X = d1 * e2 - d2 * e1) (hop : X = 0 → d1 * e1 + d2 * e2 < 0) (hk : 2 * d2.natAbs + 2 * e2.natAbs + 1 < k) (hle : e2 ≤ d2) :
    (if k * d2 ≤ e2 ∧ e2 < 0 ∧ 0 < -(k * X) then (1 : Int) else if 0 ≤ e2 ∧ e2 < k * d2 ∧ -(k * X) < 0 then -1 else 0) -
      (if 0 ≤ d2 ∧ d2 < k * e2 ∧ 0 < -(k * X) then 1 else if k * e2 ≤ d2 ∧ d2 < 0 ∧ -(k * X) < 0 then -1 else 0) +
      (if e2 < k * d2 ∧ k * d2 ≤ d2 ∧ (k - 1) * X < 0 then 1 else 0) - (if e2 < k * e2 ∧ k * e2 ≤ d2 ∧ (k - 1) * X < 0 then 1 else 0) = upD d1 d2 - upE e1 e2 := by
  have hk1 : d2.natAbs + e2.natAbs + d2.natAbs < k := by omega
  have hk2 : e2.natAbs + e2.natAbs + d2.natAbs < k := by omega
  have hk3 : 0 < k := by omega
  have hk4 : 0 < k - 1 := by omega
  unfold upE upD
  refine vertex_cases hX hop ?_ ?_ ?_ ?_ ?_ ?_ ?_ ?_ ?_ ?_ ?_ ?_ ?_ ?_ ?_ ?_ ?_ ?_ ?_ ?_ <;> clear hX hop hk
  · intro c1 c2 c3; first | (exfalso; omega) | (have A := big_neg (e := e2) (f := d2) hk1 c1; have B := big_neg (e := e2) (f := d2) hk2 c2; have Y := mpn hk3 c3; have Z := mpn hk4 c3; clear hk1 hk2 hk3 hk4; generalize k * d2 = A1 at *; generalize k * e2 = B1 at *; generalize k * X = Y1 at *; generalize (k - 1) * X = Z1 at *; (repeat (first | rw [if_neg (by omega)] | rw [if_pos (by omega)])) <;> (try omega))
  · intro c1 c2 c3; first | (exfalso; omega) | (have A := big_neg (e := e2) (f := d2) hk1 c1; have B := big_neg (e := e2) (f := d2) hk2 c2; have Y := mpp hk3 c3; have Z := mpp hk4 c3; clear hk1 hk2 hk3 hk4; generalize k * d2 = A1 at *; generalize k * e2 = B1 at *; generalize k * X = Y1 at *; generalize (k - 1) * X = Z1 at *; (repeat (first | rw [if_neg (by omega)] | rw [if_pos (by omega)])) <;> (try omega))
  · intro c1 c2 c3 c4; first | (exfalso; omega) | (have A := big_neg (e := e2) (f := d2) hk1 c1; have B := big_zero (k := k) c2; have Y := mpp hk3 c4; have Z := mpp hk4 c4; clear hk1 hk2 hk3 hk4; generalize k * d2 = A1 at *; generalize k * e2 = B1 at *; generalize k * X = Y1 at *; generalize (k - 1) * X = Z1 at *; (repeat (first | rw [if_neg (by omega)] | rw [if_pos (by omega)])) <;> (try omega))
  · intro c1 c2 c3 c4; first | (exfalso; omega) | (have A := big_neg (e := e2) (f := d2) hk1 c1; have B := big_zero (k := k) c2; have Y := mpn hk3 c4; have Z := mpn hk4 c4; clear hk1 hk2 hk3 hk4; generalize k * d2 = A1 at *; generalize k * e2 = B1 at *; generalize k * X = Y1 at *; generalize (k - 1) * X = Z1 at *; (repeat (first | rw [if_neg (by omega)] | rw [if_pos (by omega)])) <;> (try omega))
  · intro c1 c2 c3; first | (exfalso; omega) | (have A := big_neg (e := e2) (f := d2) hk1 c1; have B := big_pos (e := e2) (f := d2) hk2 c2; have Y := mpn hk3 c3; have Z := mpn hk4 c3; clear hk1 hk2 hk3 hk4; generalize k * d2 = A1 at *; generalize k * e2 = B1 at *; generalize k * X = Y1 at *; generalize (k - 1) * X = Z1 at *; (repeat (first | rw [if_neg (by omega)] | rw [if_pos (by omega)])) <;> (try omega))
  · intro c1 c2 c3; first | (exfalso; omega) | (have A := big_neg (e := e2) (f := d2) hk1 c1; have B := big_pos (e := e2) (f := d2) hk2 c2; have Y := big_zero (k := k) c3; have Z := big_zero (k := k - 1) c3; clear hk1 hk2 hk3 hk4; generalize k * d2 = A1 at *; generalize k * e2 = B1 at *; generalize k * X = Y1 at *; generalize (k - 1) * X = Z1 at *; (repeat (first | rw [if_neg (by omega)] | rw [if_pos (by omega)])) <;> (try omega))
  · intro c1 c2 c3; first | (exfalso; omega) | (have A := big_neg (e := e2) (f := d2) hk1 c1; have B := big_pos (e := e2) (f := d2) hk2 c2; have Y := mpp hk3 c3; have Z := mpp hk4 c3; clear hk1 hk2 hk3 hk4; generalize k * d2 = A1 at *; generalize k * e2 = B1 at *; generalize k * X = Y1 at *; generalize (k - 1) * X = Z1 at *; (repeat (first | rw [if_neg (by omega)] | rw [if_pos (by omega)])) <;> (try omega))
  · intro c1 c2 c3 c4; first | (exfalso; omega) | (have A := big_zero (k := k) c1; have B := big_neg (e := e2) (f := d2) hk2 c2; have Y := mpp hk3 c4; have Z := mpp hk4 c4; clear hk1 hk2 hk3 hk4; generalize k * d2 = A1 at *; generalize k * e2 = B1 at *; generalize k * X = Y1 at *; generalize (k - 1) * X = Z1 at *; (repeat (first | rw [if_neg (by omega)] | rw [if_pos (by omega)])) <;> (try omega))
  · intro c1 c2 c3 c4; first | (exfalso; omega) | (have A := big_zero (k := k) c1; have B := big_neg (e := e2) (f := d2) hk2 c2; have Y := mpn hk3 c4; have Z := mpn hk4 c4; clear hk1 hk2 hk3 hk4; generalize k * d2 = A1 at *; generalize k * e2 = B1 at *; generalize k * X = Y1 at *; generalize (k - 1) * X = Z1 at *; (repeat (first | rw [if_neg (by omega)] | rw [if_pos (by omega)])) <;> (try omega))
  · intro c1 c2 c3 c4 c5; first | (exfalso; omega) | (have A := big_zero (k := k) c1; have B := big_zero (k := k) c2; have Y := big_zero (k := k) c3; have Z := big_zero (k := k - 1) c3; clear hk1 hk2 hk3 hk4; generalize k * d2 = A1 at *; generalize k * e2 = B1 at *; generalize k * X = Y1 at *; generalize (k - 1) * X = Z1 at *; (repeat (first | rw [if_neg (by omega)] | rw [if_pos (by omega)])) <;> (try omega))
  · intro c1 c2 c3 c4 c5; first | (exfalso; omega) | (have A := big_zero (k := k) c1; have B := big_zero (k := k) c2; have Y := big_zero (k := k) c3; have Z := big_zero (k := k - 1) c3; clear hk1 hk2 hk3 hk4; generalize k * d2 = A1 at *; generalize k * e2 = B1 at *; generalize k * X = Y1 at *; generalize (k - 1) * X = Z1 at *; (repeat (first | rw [if_neg (by omega)] | rw [if_pos (by omega)])) <;> (try omega))
  · intro c1 c2 c3 c4; first | (exfalso; omega) | (have A := big_zero (k := k) c1; have B := big_pos (e := e2) (f := d2) hk2 c2; have Y := mpp hk3 c4; have Z := mpp hk4 c4; clear hk1 hk2 hk3 hk4; generalize k * d2 = A1 at *; generalize k * e2 = B1 at *; generalize k * X = Y1 at *; generalize (k - 1) * X = Z1 at *; (repeat (first | rw [if_neg (by omega)] | rw [if_pos (by omega)])) <;> (try omega))
  · intro c1 c2 c3 c4; first | (exfalso; omega) | (have A := big_zero (k := k) c1; have B := big_pos (e := e2) (f := d2) hk2 c2; have Y := mpn hk3 c4; have Z := mpn hk4 c4; clear hk1 hk2 hk3 hk4; generalize k * d2 = A1 at *; generalize k * e2 = B1 at *; generalize k * X = Y1 at *; generalize (k - 1) * X = Z1 at *; (repeat (first | rw [if_neg (by omega)] | rw [if_pos (by omega)])) <;> (try omega))
  · intro c1 c2 c3; first | (exfalso; omega) | (have A := big_pos (e := e2) (f := d2) hk1 c1; have B := big_neg (e := e2) (f := d2) hk2 c2; have Y := mpn hk3 c3; have Z := mpn hk4 c3; clear hk1 hk2 hk3 hk4; generalize k * d2 = A1 at *; generalize k * e2 = B1 at *; generalize k * X = Y1 at *; generalize (k - 1) * X = Z1 at *; (repeat (first | rw [if_neg (by omega)] | rw [if_pos (by omega)])) <;> (try omega))
  · intro c1 c2 c3; first | (exfalso; omega) | (have A := big_pos (e := e2) (f := d2) hk1 c1; have B := big_neg (e := e2) (f := d2) hk2 c2; have Y := big_zero (k := k) c3; have Z := big_zero (k := k - 1) c3; clear hk1 hk2 hk3 hk4; generalize k * d2 = A1 at *; generalize k * e2 = B1 at *; generalize k * X = Y1 at *; generalize (k - 1) * X = Z1 at *; (repeat (first | rw [if_neg (by omega)] | rw [if_pos (by omega)])) <;> (try omega))
  · intro c1 c2 c3; first | (exfalso; omega) | (have A := big_pos (e := e2) (f := d2) hk1 c1; have B := big_neg (e := e2) (f := d2) hk2 c2; have Y := mpp hk3 c3; have Z := mpp hk4 c3; clear hk1 hk2 hk3 hk4; generalize k * d2 = A1 at *; generalize k * e2 = B1 at *; generalize k * X = Y1 at *; generalize (k - 1) * X = Z1 at *; (repeat (first | rw [if_neg (by omega)] | rw [if_pos (by omega)])) <;> (try omega))
  · intro c1 c2 c3 c4; first | (exfalso; omega) | (have A := big_pos (e := e2) (f := d2) hk1 c1; have B := big_zero (k := k) c2; have Y := mpp hk3 c4; have Z := mpp hk4 c4; clear hk1 hk2 hk3 hk4; generalize k * d2 = A1 at *; generalize k * e2 = B1 at *; generalize k * X = Y1 at *; generalize (k - 1) * X = Z1 at *; (repeat (first | rw [if_neg (by omega)] | rw [if_pos (by omega)])) <;> (try omega))
  · intro c1 c2 c3 c4; first | (exfalso; omega) | (have A := big_pos (e := e2) (f := d2) hk1 c1; have B := big_zero (k := k) c2; have Y := mpn hk3 c4; have Z := mpn hk4 c4; clear hk1 hk2 hk3 hk4; generalize k * d2 = A1 at *; generalize k * e2 = B1 at *; generalize k * X = Y1 at *; generalize (k - 1) * X = Z1 at *; (repeat (first | rw [if_neg (by omega)] | rw [if_pos (by omega)])) <;> (try omega))
  · intro c1 c2 c3; first | (exfalso; omega) | (have A := big_pos (e := e2) (f := d2) hk1 c1; have B := big_pos (e := e2) (f := d2) hk2 c2; have Y := mpn hk3 c3; have Z := mpn hk4 c3; clear hk1 hk2 hk3 hk4; generalize k * d2 = A1 at *; generalize k * e2 = B1 at *; generalize k * X = Y1 at *; generalize (k - 1) * X = Z1 at *; (repeat (first | rw [if_neg (by omega)] | rw [if_pos (by omega)])) <;> (try omega))
  · intro c1 c2 c3; first | (exfalso; omega) | (have A := big_pos (e := e2) (f := d2) hk1 c1; have B := big_pos (e := e2) (f := d2) hk2 c2; have Y := mpp hk3 c3; have Z := mpp hk4 c3; clear hk1 hk2 hk3 hk4; generalize k * d2 = A1 at *; generalize k * e2 = B1 at *; generalize k * X = Y1 at *; generalize (k - 1) * X = Z1 at *; (repeat (first | rw [if_neg (by omega)] | rw [if_pos (by omega)])) <;> (try omega))
/-- The point near b on the way to a, seen k times as large. -/
def near (k : Int) (b a : Int × Int) : Int × Int := (k * b.1 + (a.1 - b.1), k * b.2 + (a.2 - b.2))
theorem near_inn {k : Int} (hk : 1 < k) {a b : Int × Int} (hab : a ≠ b) : inn (sc k a) (sc k b) (near k b a) := by
  have np := norm_pos hab
  have e1 : turn (sc k a) (sc k b) (near k b a) = 0 := by unfold turn sc near; grind
  have e2 : dot (near k b a) (sc k a) (sc k b) = -((k - 1) * ((b.1 - a.1) * (b.1 - a.1) + (b.2 - a.2) * (b.2 - a.2))) := by unfold dot sc near; grind
  have := mpp (show 0 < k - 1 by omega) np
  refine ⟨onB_mk e1 (by omega), fun e => ?_, fun e => ?_⟩
  · unfold near sc at e
    rw [Prod.mk.injEq] at e
    have f1 : (k - 1) * (b.1 - a.1) = 0 := by grind
    have f2 : (k - 1) * (b.2 - a.2) = 0 := by grind
    refine hab (Prod.ext ?_ ?_)
    · rcases Int.mul_eq_zero.1 f1 with k | k <;> omega
    · rcases Int.mul_eq_zero.1 f2 with k | k <;> omega
  · unfold near sc at e
    rw [Prod.mk.injEq] at e
    refine hab (Prod.ext ?_ ?_) <;> omega
theorem upD_eq {k : Int} (_hk : 0 < k) (a b : Int × Int) : up a b = upD (a.1 - b.1) (a.2 - b.2) := by
  unfold up upD
  by_cases h : a.2 < b.2 ∨ (a.2 = b.2 ∧ b.1 < a.1)
  · rw [if_pos h, if_pos (by omega)]
  · rw [if_neg h, if_neg (by omega)]
theorem upE_eq (a b : Int × Int) : up a b = upE (b.1 - a.1) (b.2 - a.2) := by
  unfold up upE
  by_cases h : a.2 < b.2 ∨ (a.2 = b.2 ∧ b.1 < a.1)
  · rw [if_pos h, if_pos (by omega)]
  · rw [if_neg h, if_neg (by omega)]
theorem if_iff {P Q : Prop} [Decidable P] [Decidable Q] {a b c d : Int} (h : P ↔ Q) (h1 : a = c) (h2 : b = d) : (if P then a else b) = if Q then c else d := by
  subst h1 h2
  by_cases hp : P
  · rw [if_pos hp, if_pos (h.1 hp)]
  · rw [if_neg hp, if_neg (fun q => hp (h.2 q))]
theorem term_in (a b d1 d2 e1 e2 k : Int) : cr (a + e1, b + e2) (a + k * d1, b + k * d2) (a, b) =
    (if k * d2 ≤ e2 ∧ e2 < 0 ∧ 0 < -(k * (d1 * e2 - d2 * e1)) then (1 : Int) else if 0 ≤ e2 ∧ e2 < k * d2 ∧ -(k * (d1 * e2 - d2 * e1)) < 0 then -1 else 0) := by
  have ht : turn (a + k * d1, b + k * d2) (a, b) (a + e1, b + e2) = -(k * (d1 * e2 - d2 * e1)) := by unfold turn; grind
  unfold cr; rw [ht]
  exact if_iff (by simp only; omega) rfl (if_iff (by simp only; omega) rfl rfl)
theorem term_out (a b d1 d2 e1 e2 k : Int) : cr (a + d1, b + d2) (a, b) (a + k * e1, b + k * e2) =
    (if 0 ≤ d2 ∧ d2 < k * e2 ∧ 0 < -(k * (d1 * e2 - d2 * e1)) then (1 : Int) else if k * e2 ≤ d2 ∧ d2 < 0 ∧ -(k * (d1 * e2 - d2 * e1)) < 0 then -1 else 0) := by
  have ht : turn (a, b) (a + k * e1, b + k * e2) (a + d1, b + d2) = -(k * (d1 * e2 - d2 * e1)) := by unfold turn; grind
  unfold cr; rw [ht]
  exact if_iff (by simp only; omega) rfl (if_iff (by simp only; omega) rfl rfl)
theorem term_reg1 (a b d1 d2 e1 e2 k : Int) : reg (a + d1, b + d2) (a + e1, b + e2) (a + k * d1, b + k * d2) = (if d2 < k * d2 ∧ k * d2 ≤ e2 ∧ -((k - 1) * (d1 * e2 - d2 * e1)) < 0 then 1 else 0) := by
  have ht : turn (a + d1, b + d2) (a + e1, b + e2) (a + k * d1, b + k * d2) = -((k - 1) * (d1 * e2 - d2 * e1)) := by unfold turn; grind
  unfold reg; rw [ht]
  exact if_iff (by simp only; omega) rfl rfl
theorem term_reg2 (a b d1 d2 e1 e2 k : Int) : reg (a + d1, b + d2) (a + e1, b + e2) (a + k * e1, b + k * e2) = (if d2 < k * e2 ∧ k * e2 ≤ e2 ∧ -((k - 1) * (d1 * e2 - d2 * e1)) < 0 then 1 else 0) := by
  have ht : turn (a + d1, b + d2) (a + e1, b + e2) (a + k * e1, b + k * e2) = -((k - 1) * (d1 * e2 - d2 * e1)) := by unfold turn; grind
  unfold reg; rw [ht]
  exact if_iff (by simp only; omega) rfl rfl
theorem term_reg3 (a b d1 d2 e1 e2 k : Int) : reg (a + e1, b + e2) (a + d1, b + d2) (a + k * d1, b + k * d2) = (if e2 < k * d2 ∧ k * d2 ≤ d2 ∧ (k - 1) * (d1 * e2 - d2 * e1) < 0 then 1 else 0) := by
  have ht : turn (a + e1, b + e2) (a + d1, b + d2) (a + k * d1, b + k * d2) = (k - 1) * (d1 * e2 - d2 * e1) := by unfold turn; grind
  unfold reg; rw [ht]
  exact if_iff (by simp only; omega) rfl rfl
theorem term_reg4 (a b d1 d2 e1 e2 k : Int) : reg (a + e1, b + e2) (a + d1, b + d2) (a + k * e1, b + k * e2) = (if e2 < k * e2 ∧ k * e2 ≤ d2 ∧ (k - 1) * (d1 * e2 - d2 * e1) < 0 then 1 else 0) := by
  have ht : turn (a + e1, b + e2) (a + d1, b + d2) (a + k * e1, b + k * e2) = (k - 1) * (d1 * e2 - d2 * e1) := by unfold turn; grind
  unfold reg; rw [ht]
  exact if_iff (by simp only; omega) rfl rfl
/-- A ray that moves along a way that only two sides touch. -/
theorem wsum_but2 {p : Nat → Int × Int} {n : Nat} (h2 : 2 ≤ n) (hper : p n = p 0) {x y : Int × Int} (hxy : x.2 ≤ y.2) (ha : ∀ j, 1 < j → j < n → apart x y (p j) (p (j + 1))) :
    wsum p n x - wsum p n y = (cr x (p 0) (p 1) - cr y (p 0) (p 1) - (reg x y (p 1) - reg x y (p 0))) + (cr x (p 1) (p 2) - cr y (p 1) (p 2) - (reg x y (p 2) - reg x y (p 1))) := by
  have e := sumN_two (f := fun i => (cr x (p i) (p (i + 1)) - cr y (p i) (p (i + 1))) - (reg x y (p (i + 1)) - reg x y (p i))) (i := 0) (k := 1) (n := n) (by omega) (by omega) (by omega) (fun j hj j0 j1 => by
    have := cross hxy (ha j (by omega) hj)
    omega)
  rw [sumN_sub, sumN_sub, sumN_tele (fun i => reg x y (p i))] at e
  simp only [hper] at e
  unfold wsum
  simp only [Nat.zero_add, Nat.reduceAdd] at e ⊢
  omega
theorem corner_sum {u v w : Int × Int} {k d1 d2 e1 e2 a b : Int} {S : Int × Int → Int} (hk : 2 * d2.natAbs + 2 * e2.natAbs + 1 < k)
    (hop : d1 * e2 - d2 * e1 = 0 → d1 * e1 + d2 * e2 < 0)
    (hu : u = (a + k * d1, b + k * d2)) (hv : v = (a, b)) (hw : w = (a + k * e1, b + k * e2))
    (hS : ∀ x y : Int × Int, (x = (a + d1, b + d2) ∧ y = (a + e1, b + e2) ∨ y = (a + d1, b + d2) ∧ x = (a + e1, b + e2)) → x.2 ≤ y.2 → S x - S y = (cr x u v - cr y u v - (reg x y v - reg x y u)) + (cr x v w - cr y v w - (reg x y w - reg x y v))) :
    S (a + d1, b + d2) + upD d1 d2 = S (a + e1, b + e2) + upE e1 e2 := by
  have t1 : cr (a + d1, b + d2) (a + k * d1, b + k * d2) (a, b) = 0 := cr_on (by unfold turn; grind)
  have t2 : cr (a + e1, b + e2) (a, b) (a + k * e1, b + k * e2) = 0 := cr_on (by unfold turn; grind)
  subst hu hv hw
  rcases Int.le_total d2 e2 with c | c
  · have g := hS (a + d1, b + d2) (a + e1, b + e2) (.inl ⟨rfl, rfl⟩) (by simp only; omega)
    rw [t1, t2, term_in, term_out, term_reg1, term_reg2] at g
    have := vertex_le (X := d1 * e2 - d2 * e1) rfl hop (k := k) hk c
    omega
  · have g := hS (a + e1, b + e2) (a + d1, b + d2) (.inr ⟨rfl, rfl⟩) (by simp only; omega)
    rw [t1, t2, term_in, term_out, term_reg3, term_reg4] at g
    have := vertex_gt (X := d1 * e2 - d2 * e1) rfl hop (k := k) hk c
    omega
theorem spike_op {a b c : Int × Int} (hs : ¬ (turn a b c = 0 ∧ 0 < dot b a c)) (hab : a ≠ b) (hbc : b ≠ c) (h0 : turn a b c = 0) : dot b a c < 0 := by
  have hle : dot b a c ≤ 0 := by
    rcases Int.lt_or_le 0 (dot b a c) with c | c
    · exact absurd ⟨h0, c⟩ hs
    · exact c
  have n1 := norm_pos (fun e => hab e.symm)
  have n2 := norm_pos hbc
  have sq : dot b a c * dot b a c + turn a b c * turn a b c = ((a.1 - b.1) * (a.1 - b.1) + (a.2 - b.2) * (a.2 - b.2)) * ((c.1 - b.1) * (c.1 - b.1) + (c.2 - b.2) * (c.2 - b.2)) := by
    unfold dot turn; grind
  have := mpp n1 n2
  rw [← sq, h0] at this
  rcases Int.lt_or_le (dot b a c) 0 with c' | c'
  · exact c'
  · have z : dot b a c = 0 := by omega
    rw [z] at this; simp at this
theorem apart_flip {x y a b : Int × Int} (h : apart x y a b) : apart y x a b := apart_symm (apart_swap (apart_symm h))
/-- Near a corner: from one side to the next. -/
theorem Simple.corner_step {p : Nat → Int × Int} {n : Nat} (h : Simple p n) : ∃ k0 : Int, ∀ k, k0 ≤ k → 0 < k →
    wsum (fun i => sc k (p i)) n (near k (p 1) (p 0)) + up (p 0) (p 1) = wsum (fun i => sc k (p i)) n (near k (p 1) (p 2)) + up (p 1) (p 2) := by
  have h3 := h.three
  have e01 : p 0 ≠ p 1 := h.ne (by rw [Nat.zero_mod, Nat.mod_eq_of_lt (by omega)]; omega)
  have e12 : p 1 ≠ p 2 := h.ne (by rw [Nat.mod_eq_of_lt (by omega), Nat.mod_eq_of_lt (by omega)]; omega)
  obtain ⟨k1, hk1⟩ := bound_all (P := fun j k => 1 < j → apart (near k (p 1) (p 0)) (near k (p 1) (p 2)) (sc k (p j)) (sc k (p (j + 1)))) n (fun j hj => by
    by_cases c : 1 < j
    · obtain ⟨k0, hk0⟩ := near_apart (h.corner_off c hj) ((p 0).1 - (p 1).1, (p 0).2 - (p 1).2) ((p 2).1 - (p 1).1, (p 2).2 - (p 1).2)
      exact ⟨k0, fun k a b _ => hk0 k a b⟩
    · exact ⟨0, fun k _ _ c' => absurd c' c⟩)
  refine ⟨max k1 (2 * ((p 0).2 - (p 1).2).natAbs + 2 * ((p 2).2 - (p 1).2).natAbs + 2), fun k hk hk0 => ?_⟩
  have hs := h.spike 0
  simp only [Nat.zero_add] at hs
  rw [upD_eq hk0 (p 0) (p 1), upE_eq (p 1) (p 2)]
  have ap := fun j h1 hj => hk1 k (by omega) hk0 j hj h1
  refine corner_sum (k := k) (u := sc k (p 0)) (v := sc k (p 1)) (w := sc k (p 2)) (a := k * (p 1).1) (b := k * (p 1).2) (S := wsum (fun i => sc k (p i)) n) (by omega) ?_ ?_ rfl ?_ ?_
  · intro h0
    have := spike_op hs e01 e12 (by unfold turn; grind)
    unfold dot at this
    exact this
  · unfold sc; rw [Prod.mk.injEq]; constructor <;> grind
  · unfold sc; rw [Prod.mk.injEq]; constructor <;> grind
  · intro x y hxy hle
    refine wsum_but2 (p := fun i => sc k (p i)) (by omega) ?_ hle ?_
    · show sc k (p n) = sc k (p 0)
      rw [show n = 0 + n by omega, h.per]
    · intro j h1 hj
      rcases hxy with ⟨rfl, rfl⟩ | ⟨rfl, rfl⟩
      · exact ap j h1 hj
      · exact apart_flip (ap j h1 hj)
theorem inn_sc {k : Int} (hk : 0 < k) {a b x : Int × Int} (h : inn a b x) : inn (sc k a) (sc k b) (sc k x) :=
  ⟨by rw [onB_sc hk]; exact h.1, fun e => h.2.1 (sc_inj hk e), fun e => h.2.2 (sc_inj hk e)⟩
theorem Simple.inside_at {p : Nat → Int × Int} {n : Nat} (h : Simple p n) (i : Nat) {x y : Int × Int} (hx : inn (p i) (p (i + 1)) x) (hy : inn (p i) (p (i + 1)) y) : wsum p n x = wsum p n y := by
  have := (h.shift i).inside_first (x := x) (y := y) (by simp only [Nat.zero_add]; rw [Nat.add_comm 1 i]; exact hx) (by simp only [Nat.zero_add]; rw [Nat.add_comm 1 i]; exact hy)
  rwa [h.wsum_shift, h.wsum_shift] at this
/-- Points inside a side, however large the plot is seen, are gone round alike. -/
theorem Simple.inside_scaled {p : Nat → Int × Int} {n : Nat} (h : Simple p n) (i : Nat) {k l : Int} (hk : 0 < k) (hl : 0 < l) {x y : Int × Int}
    (hx : inn (sc k (p i)) (sc k (p (i + 1))) x) (hy : inn (sc l (p i)) (sc l (p (i + 1))) y) : wsum (fun i => sc k (p i)) n x = wsum (fun i => sc l (p i)) n y := by
  rw [← wsum_sc hl (fun i => sc k (p i)) n x, ← wsum_sc hk (fun i => sc l (p i)) n y]
  have e : ∀ i, sc k (sc l (p i)) = sc l (sc k (p i)) := fun i => by rw [sc_sc, sc_sc, Int.mul_comm]
  have ef : (fun i => sc k (sc l (p i))) = fun i => sc l (sc k (p i)) := funext e
  rw [ef]
  exact ((h.scale hk).scale hl).inside_at i (inn_sc hl hx) (by rw [← e, ← e]; exact inn_sc hk hy)
theorem mid_inn {a b : Int × Int} (hab : a ≠ b) : inn (sc 2 a) (sc 2 b) (near 2 b a) := near_inn (by decide) hab
/-- What lies on the left of a side. -/
def lam (p : Nat → Int × Int) (n i : Nat) : Int := wsum (fun i => sc 2 (p i)) n (near 2 (p (i + 1)) (p i)) + up (p i) (p (i + 1))
theorem Simple.ne_next {p : Nat → Int × Int} {n : Nat} (h : Simple p n) (i : Nat) : p i ≠ p (i + 1) := by
  have h3 := h.three
  refine h.ne fun e => ?_
  have h1 := Nat.mod_lt i (show 0 < n by omega)
  rw [← Nat.mod_add_mod] at e
  by_cases c : i % n + 1 = n
  · rw [c, Nat.mod_self] at e; omega
  · rw [Nat.mod_eq_of_lt (show i % n + 1 < n by omega)] at e; omega
theorem Simple.lam_eq {p : Nat → Int × Int} {n : Nat} (h : Simple p n) (i : Nat) {k : Int} (hk : 0 < k) {x : Int × Int} (hx : inn (sc k (p i)) (sc k (p (i + 1))) x) :
    wsum (fun i => sc k (p i)) n x + up (p i) (p (i + 1)) = lam p n i := by
  unfold lam
  rw [h.inside_scaled i hk (by decide) hx (mid_inn (h.ne_next i))]
theorem near_inn' {k : Int} (hk : 1 < k) {a b : Int × Int} (hab : a ≠ b) : inn (sc k a) (sc k b) (near k a b) := by
  obtain ⟨h1, h2, h3⟩ := near_inn hk (fun e => hab e.symm)
  exact ⟨by rw [onB_swap]; exact h1, h3, h2⟩
theorem Simple.lam_step {p : Nat → Int × Int} {n : Nat} (h : Simple p n) (i : Nat) : lam p n i = lam p n (i + 1) := by
  obtain ⟨k0, hk⟩ := (h.shift i).corner_step
  have := hk (max k0 2) (by omega) (by omega)
  simp only [Nat.zero_add] at this
  rw [show 1 + i = i + 1 by omega, show 2 + i = i + 1 + 1 by omega, (h.scale (show 0 < max k0 2 by omega)).wsum_shift i, (h.scale (show 0 < max k0 2 by omega)).wsum_shift i] at this
  rw [← h.lam_eq i (show 0 < max k0 2 by omega) (near_inn (by omega) (h.ne_next i)), ← h.lam_eq (i + 1) (show 0 < max k0 2 by omega) (near_inn' (by omega) (h.ne_next (i + 1)))]
  exact this
theorem Simple.lam_all {p : Nat → Int × Int} {n : Nat} (h : Simple p n) : ∀ i, lam p n i = lam p n 0
  | 0 => rfl
  | i + 1 => by rw [← h.lam_step i, h.lam_all i]
/-- A point inside a side is on no other side. -/
theorem Simple.inside_off {p : Nat → Int × Int} {n : Nat} (h : Simple p n) {i j : Nat} (hi : i < n) (hj : j < n) (hij : j ≠ i) {x : Int × Int} (hx : inn (p i) (p (i + 1)) x) : onB (p j) (p (j + 1)) x = false := by
  have hx' : inn (p (0 + i)) (p (1 + i)) x := by rw [Nat.zero_add, Nat.add_comm 1 i]; exact hx
  have ht : (j + n - i) % n < n := Nat.mod_lt _ (by omega)
  have e : ((j + n - i) % n + i) % n = j := by
    rw [Nat.mod_add_mod, show j + n - i + i = j + n by omega, Nat.add_mod_right, Nat.mod_eq_of_lt hj]
  have e1 : p ((j + n - i) % n + i) = p j := by rw [← h.mod ((j + n - i) % n + i), e]
  have e2 : p ((j + n - i) % n + 1 + i) = p (j + 1) := by
    rw [← h.mod ((j + n - i) % n + 1 + i), show (j + n - i) % n + 1 + i = (j + n - i) % n + i + 1 by omega, ← Nat.mod_add_mod, e, h.mod]
  have t0 : 0 < (j + n - i) % n := by
    rcases Nat.eq_zero_or_pos ((j + n - i) % n) with c | c
    · rw [c, Nat.zero_add, Nat.mod_eq_of_lt hi] at e; omega
    · exact c
  have := (h.shift i).apart_first hx' hx' t0 ht
  simp only [e1, e2] at this
  exact this.1
theorem exists_min (f : Nat → Int) (P : Nat → Prop) : ∀ n : Nat, (∃ j, j < n ∧ P j) → ∃ j, j < n ∧ P j ∧ ∀ i, i < n → P i → f j ≤ f i
  | 0, ⟨j, h, _⟩ => by omega
  | n + 1, ⟨j, hj, pj⟩ => by
    by_cases c : ∃ j, j < n ∧ P j
    · obtain ⟨m, hm, pm, hmin⟩ := exists_min f P n c
      by_cases pn : P n
      · rcases Int.le_total (f m) (f n) with k | k
        · exact ⟨m, by omega, pm, fun i hi pi => by
            by_cases e : i = n
            · subst e; exact k
            · exact hmin i (by omega) pi⟩
        · exact ⟨n, by omega, pn, fun i hi pi => by
            by_cases e : i = n
            · subst e; exact Int.le_refl _
            · exact Int.le_trans k (hmin i (by omega) pi)⟩
      · exact ⟨m, by omega, pm, fun i hi pi => by
          by_cases e : i = n
          · subst e; exact absurd pi pn
          · exact hmin i (by omega) pi⟩
    · have e : j = n := by
        rcases Nat.lt_or_ge j n with k | k
        · exact absurd ⟨j, k, pj⟩ c
        · omega
      subst e
      exact ⟨j, hj, pj, fun i hi pi => by
        by_cases e : i = j
        · subst e; exact Int.le_refl _
        · exact absurd ⟨i, by omega, pi⟩ c⟩
theorem exists_mul (f : Nat → Int) : ∀ n : Nat, ∃ L : Int, 0 < L ∧ ∀ j, j < n → f j ≠ 0 → f j ∣ L
  | 0 => ⟨1, by decide, fun j h => by omega⟩
  | n + 1 => by
    obtain ⟨L, hL, h⟩ := exists_mul f n
    by_cases c : f n = 0
    · exact ⟨L, hL, fun j hj hne => by
        by_cases e : j = n
        · subst e; exact absurd c hne
        · exact h j (by omega) hne⟩
    · refine ⟨L * (f n).natAbs, Int.mul_pos hL (by omega), fun j hj hne => ?_⟩
      by_cases e : j = n
      · subst e; exact Int.dvd_mul_of_dvd_right (Int.dvd_natAbs.2 (Int.dvd_refl _))
      · exact Int.dvd_mul_of_dvd_left (h j (by omega) hne)
/-- A row of heights that a ray meets: where it meets a side, in whole numbers. -/
theorem meet_at {a b : Int × Int} {L y : Int} (hd : b.2 - a.2 ∣ L) (_hab : b.2 ≠ a.2) : ∃ P : Int, turn (sc L a) (sc L b) (P, L * y) = 0 := by
  obtain ⟨c, hc⟩ := hd
  refine ⟨L * a.1 + (b.1 - a.1) * (y - a.2) * c, ?_⟩
  have e : turn (sc L a) (sc L b) (L * a.1 + (b.1 - a.1) * (y - a.2) * c, L * y) = L * ((b.1 - a.1) * (y - a.2)) * (L - (b.2 - a.2) * c) := by unfold turn sc; grind
  rw [e, ← hc]; simp
theorem cr_at {a b : Int × Int} {P X y : Int} (ht : turn a b (P, y) = 0) (ha : a.2 ≠ y) (hb : b.2 ≠ y) :
    cr (X, y) a b = if a.2 < y ∧ y < b.2 ∧ X < P then 1 else if b.2 < y ∧ y < a.2 ∧ X < P then -1 else 0 := by
  have e : turn a b (X, y) = (b.2 - a.2) * (P - X) := by
    have : turn a b (X, y) = turn a b (P, y) + (b.2 - a.2) * (P - X) := by unfold turn; grind
    rw [this, ht]; omega
  unfold cr
  rw [e]
  refine if_iff ?_ rfl (if_iff ?_ rfl rfl)
  · constructor
    · rintro ⟨h1, h2, h3⟩
      refine ⟨by simp only at h1; omega, h2, ?_⟩
      rw [Int.mul_comm] at h3
      have := fpos h3 (by simp only at h1 h2; omega); omega
    · rintro ⟨h1, h2, h3⟩
      exact ⟨by simp only; omega, h2, mpp (by omega) (by omega)⟩
  · constructor
    · rintro ⟨h1, h2, h3⟩
      refine ⟨by simp only at h1; omega, h2, ?_⟩
      have h4 : 0 < (P - X) * (a.2 - b.2) := by
        have : (P - X) * (a.2 - b.2) = -((b.2 - a.2) * (P - X)) := by grind
        omega
      have := fpos h4 (by simp only at h1 h2; omega); omega
    · rintro ⟨h1, h2, h3⟩
      exact ⟨by simp only; omega, h2, mnp (by omega) (by omega)⟩
/-- A ray that meets no corner: what it meets first tells how often a point is gone round. -/
theorem Simple.first_hit {q : Nat → Int × Int} {n : Nat} (h : Simple q n) {y : Int × Int} (hy : ∀ i, (q i).2 ≠ y.2) :
    ((∀ i, i < n → cr y (q i) (q (i + 1)) = 0) ∧ wsum q n y = 0) ∨ wsum q n y = lam q n 0 ∨ wsum q n y = lam q n 0 - 1 := by
  obtain ⟨L, hL, hdv⟩ := exists_mul (fun j => (q (j + 1)).2 - (q j).2) n
  have hr := h.scale hL
  have hh : ∀ i, (sc L (q i)).2 ≠ L * y.2 := fun i e => hy i (Int.eq_of_mul_eq_mul_left (show L ≠ 0 by omega) e)
  have hP : ∀ j, ∃ P : Int, j < n → (q (j + 1)).2 ≠ (q j).2 → turn (sc L (q j)) (sc L (q (j + 1))) (P, L * y.2) = 0 := fun j => by
    by_cases c : j < n ∧ (q (j + 1)).2 ≠ (q j).2
    · obtain ⟨P, hP⟩ := meet_at (y := y.2) (hdv j c.1 (by have := c.2; omega)) c.2
      exact ⟨P, fun _ _ => hP⟩
    · exact ⟨0, fun a b => absurd ⟨a, b⟩ c⟩
  obtain ⟨P, hP⟩ : ∃ P : Nat → Int, ∀ j, j < n → (q (j + 1)).2 ≠ (q j).2 → turn (sc L (q j)) (sc L (q (j + 1))) (P j, L * y.2) = 0 :=
    ⟨fun j => (hP j).choose, fun j => (hP j).choose_spec⟩
  -- how a ray at this height meets a side
  have hcr : ∀ X j, j < n → cr (X, L * y.2) (sc L (q j)) (sc L (q (j + 1))) = if (sc L (q j)).2 < L * y.2 ∧ L * y.2 < (sc L (q (j + 1))).2 ∧ X < P j then 1 else if (sc L (q (j + 1))).2 < L * y.2 ∧ L * y.2 < (sc L (q j)).2 ∧ X < P j then -1 else 0 := fun X j hj => by
    by_cases c : (q (j + 1)).2 = (q j).2
    · have e : (sc L (q (j + 1))).2 = (sc L (q j)).2 := by unfold sc; simp [c]
      unfold cr
      rw [e, if_neg (by omega), if_neg (by omega), if_neg (by omega), if_neg (by omega)]
    · exact cr_at (hP j hj c) (hh j) (hh (j + 1))
  have hz : wsum q n y = sumN (fun j => cr (L * y.1, L * y.2) (sc L (q j)) (sc L (q (j + 1)))) n := (wsum_sc hL q n y).symm
  by_cases hex : ∃ j, j < n ∧ (((sc L (q j)).2 < L * y.2 ∧ L * y.2 < (sc L (q (j + 1))).2) ∨ ((sc L (q (j + 1))).2 < L * y.2 ∧ L * y.2 < (sc L (q j)).2)) ∧ L * y.1 < P j
  · right
    obtain ⟨j, hj, ⟨hc, hX⟩, hmin⟩ := exists_min P (fun j => (((sc L (q j)).2 < L * y.2 ∧ L * y.2 < (sc L (q (j + 1))).2) ∨ ((sc L (q (j + 1))).2 < L * y.2 ∧ L * y.2 < (sc L (q j)).2)) ∧ L * y.1 < P j) n (by
      obtain ⟨j, a, b, c⟩ := hex; exact ⟨j, a, b, c⟩)
    have hne : (q (j + 1)).2 ≠ (q j).2 := fun e => by
      have : (sc L (q (j + 1))).2 = (sc L (q j)).2 := by unfold sc; simp [e]
      omega
    have ht := hP j hj hne
    have hin : inn (sc L (q j)) (sc L (q (j + 1))) (P j, L * y.2) := by
      refine ⟨?_, fun e => hh j (by rw [← e]), fun e => hh (j + 1) (by rw [← e])⟩
      rcases hc with ⟨c1, c2⟩ | ⟨c1, c2⟩
      · exact on_y ht (by simp only; omega) (by simp only; omega) (by omega)
      · rw [← onB_swap]; exact on_y (by rw [turn_swap, ht]; rfl) (by simp only; omega) (by simp only; omega) (by omega)
    have hm := h.lam_eq j hL hin
    rw [h.lam_all] at hm
    have hdiff : wsum q n y - wsum (fun i => sc L (q i)) n (P j, L * y.2) = cr (L * y.1, L * y.2) (sc L (q j)) (sc L (q (j + 1))) := by
      rw [hz]
      unfold wsum
      rw [← sumN_sub, sumN_one hj]
      · show cr (L * y.1, L * y.2) (sc L (q j)) (sc L (q (j + 1))) - cr (P j, L * y.2) (sc L (q j)) (sc L (q (j + 1))) = _
        rw [cr_on ht]; omega
      · intro i hi hij
        show cr (L * y.1, L * y.2) (sc L (q i)) (sc L (q (i + 1))) - cr (P j, L * y.2) (sc L (q i)) (sc L (q (i + 1))) = 0
        rw [hcr _ i hi, hcr _ i hi]
        by_cases hci : ((sc L (q i)).2 < L * y.2 ∧ L * y.2 < (sc L (q (i + 1))).2) ∨ ((sc L (q (i + 1))).2 < L * y.2 ∧ L * y.2 < (sc L (q i)).2)
        · have hpe : P i ≠ P j := fun e => by
            have hoff := hr.inside_off hj hi hij hin
            have hnei : (q (i + 1)).2 ≠ (q i).2 := fun e => by
              have : (sc L (q (i + 1))).2 = (sc L (q i)).2 := by unfold sc; simp [e]
              omega
            have hti := hP i hi hnei
            rw [e] at hti
            have hon : onB (sc L (q i)) (sc L (q (i + 1))) (P j, L * y.2) = true := by
              rcases hci with ⟨c1, c2⟩ | ⟨c1, c2⟩
              · exact on_y hti (by simp only; omega) (by simp only; omega) (by omega)
              · rw [← onB_swap]; exact on_y (by rw [turn_swap, hti]; rfl) (by simp only; omega) (by simp only; omega) (by omega)
            rw [hon] at hoff; cases hoff
          by_cases hXi : L * y.1 < P i
          · have hmi := hmin i hi ⟨hci, hXi⟩
            rw [if_iff (c := 1) (d := if (sc L (q (i + 1))).2 < L * y.2 ∧ L * y.2 < (sc L (q i)).2 ∧ P j < P i then (-1 : Int) else 0) (Q := (sc L (q i)).2 < L * y.2 ∧ L * y.2 < (sc L (q (i + 1))).2 ∧ P j < P i) (by omega) rfl (if_iff (by omega) rfl rfl)]
            omega
          · rw [if_neg (by omega), if_neg (by omega), if_neg (by omega), if_neg (by omega)]; rfl
        · rw [if_neg (by omega), if_neg (by omega), if_neg (by omega), if_neg (by omega)]; rfl
    have hup : up (q j) (q (j + 1)) = if (sc L (q j)).2 < (sc L (q (j + 1))).2 then 1 else 0 := by
      unfold up
      have : (sc L (q j)).2 < (sc L (q (j + 1))).2 ↔ (q j).2 < (q (j + 1)).2 := by unfold sc; exact Int.mul_lt_mul_left hL
      exact if_iff (by rw [this]; omega) rfl rfl
    rw [hcr _ j hj] at hdiff
    rcases hc with ⟨c1, c2⟩ | ⟨c1, c2⟩
    · rw [if_pos (by omega)] at hup
      rw [if_pos (by omega)] at hdiff
      left; omega
    · rw [if_neg (by omega)] at hup
      rw [if_neg (by omega), if_pos (by omega)] at hdiff
      right; omega
  · left
    have hall : ∀ i, i < n → cr (L * y.1, L * y.2) (sc L (q i)) (sc L (q (i + 1))) = 0 := fun i hi => by
      rw [hcr _ i hi]
      have : ¬ ((((sc L (q i)).2 < L * y.2 ∧ L * y.2 < (sc L (q (i + 1))).2) ∨ ((sc L (q (i + 1))).2 < L * y.2 ∧ L * y.2 < (sc L (q i)).2)) ∧ L * y.1 < P i) := fun c => hex ⟨i, hi, c⟩
      rw [if_neg (by omega), if_neg (by omega)]
    exact ⟨fun i hi => by rw [← cr_sc hL]; exact hall i hi, by rw [hz]; exact sumN_zero hall⟩
theorem lam_scale {p : Nat → Int × Int} {n : Nat} (h : Simple p n) {k : Int} (hk : 0 < k) : lam (fun i => sc k (p i)) n 0 = lam p n 0 := by
  have hin := mid_inn ((h.scale hk).ne_next 0)
  have e1 := (h.scale hk).lam_eq 0 (show (0 : Int) < 2 by decide) hin
  rw [sc_sc, sc_sc] at hin
  have e2 := h.lam_eq 0 (show (0 : Int) < 2 * k by omega) hin
  have eu : up (sc k (p 0)) (sc k (p (0 + 1))) = up (p 0) (p (0 + 1)) := by
    unfold up sc
    exact if_iff (by
      have a1 : k * (p 0).2 < k * (p (0 + 1)).2 ↔ (p 0).2 < (p (0 + 1)).2 := Int.mul_lt_mul_left hk
      have a2 : k * (p (0 + 1)).1 < k * (p 0).1 ↔ (p (0 + 1)).1 < (p 0).1 := Int.mul_lt_mul_left hk
      have a3 : k * (p 0).2 = k * (p (0 + 1)).2 ↔ (p 0).2 = (p (0 + 1)).2 := ⟨fun e => Int.eq_of_mul_eq_mul_left (show k ≠ 0 by omega) e, fun e => by rw [e]⟩
      simp only [a1, a2, a3]) rfl rfl
  have ef : (fun i => sc 2 (sc k (p i))) = fun i => sc (2 * k) (p i) := funext fun i => sc_sc _ _ _
  rw [ef] at e1
  rw [← e1, ← e2, eu]
/-- What is far on the left is gone round by nothing. -/
theorem cr_left {a b y : Int × Int} (ha : y.1 < a.1) (hb : y.1 < b.1) : cr y a b = (if y.2 < b.2 then 1 else 0) - (if y.2 < a.2 then 1 else 0) := by
  have e : turn a b y = (y.2 - a.2) * (b.1 - y.1) + (b.2 - y.2) * (a.1 - y.1) := by unfold turn; grind
  unfold cr
  by_cases c1 : a.2 ≤ y.2 ∧ y.2 < b.2
  · have := mpp0 (show 0 ≤ y.2 - a.2 by omega) (show 0 ≤ b.1 - y.1 by omega)
    have := mpp (show 0 < b.2 - y.2 by omega) (show 0 < a.1 - y.1 by omega)
    rw [if_pos (by omega), if_pos (by omega), if_neg (by omega)]; rfl
  · by_cases c2 : b.2 ≤ y.2 ∧ y.2 < a.2
    · have := mnp (show y.2 - a.2 < 0 by omega) (show 0 < b.1 - y.1 by omega)
      have := mnp0 (show b.2 - y.2 ≤ 0 by omega) (show 0 ≤ a.1 - y.1 by omega)
      rw [if_neg (by omega), if_pos (by omega), if_neg (by omega), if_pos (by omega)]; rfl
    · rw [if_neg (by omega), if_neg (by omega)]
      by_cases c3 : y.2 < b.2
      · rw [if_pos (by omega), if_pos (by omega)]; rfl
      · rw [if_neg (by omega), if_neg (by omega)]; rfl
theorem wsum_left {p : Nat → Int × Int} {n : Nat} (hper : p n = p 0) {y : Int × Int} (h : ∀ i, i ≤ n → y.1 < (p i).1) : wsum p n y = 0 := by
  unfold wsum
  rw [sumN_congr (g := fun i => (if y.2 < (p (i + 1)).2 then 1 else 0) - (if y.2 < (p i).2 then 1 else 0)) (fun i hi => cr_left (h i (by omega)) (h (i + 1) (by omega))),
    sumN_tele (fun i => if y.2 < (p i).2 then (1 : Int) else 0), hper]
  omega
theorem lower_bound (f : Nat → Int) : ∀ n : Nat, ∃ B : Int, ∀ i, i ≤ n → B < f i
  | 0 => ⟨f 0 - 1, fun i hi => by have : i = 0 := by omega
                                  subst this; omega⟩
  | n + 1 => by
    obtain ⟨B, h⟩ := lower_bound f n
    refine ⟨min B (f (n + 1) - 1), fun i hi => ?_⟩
    by_cases c : i = n + 1
    · subst c; omega
    · have := h i (by omega); omega
/-- Some side is not level. -/
theorem Simple.not_level {p : Nat → Int × Int} {n : Nat} (h : Simple p n) : ∃ i, i < n ∧ (p (i + 1)).2 ≠ (p i).2 := by
  have h3 := h.three
  refine Classical.byContradiction fun hno => ?_
  have lev : ∀ i, (p (i + 1)).2 = (p i).2 := fun i => by
    have h1 : (p (i % n + 1)).2 = (p (i % n)).2 := Classical.byContradiction fun c => hno ⟨i % n, Nat.mod_lt _ (by omega), c⟩
    rw [h.mod i, ← h.mod (i % n + 1), Nat.mod_add_mod, h.mod] at h1
    exact h1
  -- the corner most to the left
  obtain ⟨j, hj, _, hmin⟩ := exists_min (fun i => (p (i + 1)).1) (fun _ => True) n ⟨0, by omega, trivial⟩
  have l1 := lev j
  have l2 := lev (j + 1)
  have m0 : (p (j + 1)).1 ≤ (p j).1 := by
    have := hmin ((j + (n - 1)) % n) (Nat.mod_lt _ (by omega)) trivial
    have e : p ((j + (n - 1)) % n + 1) = p j := by
      rw [← h.mod ((j + (n - 1)) % n + 1), Nat.mod_add_mod, show j + (n - 1) + 1 = j + n by omega, Nat.add_mod_right, h.mod]
    rw [e] at this; exact this
  have m2 : (p (j + 1)).1 ≤ (p (j + 2)).1 := by
    have := hmin ((j + 1) % n) (Nat.mod_lt _ (by omega)) trivial
    have e : p ((j + 1) % n + 1) = p (j + 2) := by
      rw [← h.mod ((j + 1) % n + 1), Nat.mod_add_mod, h.mod]
    rw [e] at this; exact this
  have n0 := h.ne_next j
  have n1 := h.ne_next (j + 1)
  have d0 : (p (j + 1)).1 < (p j).1 := by
    rcases Int.lt_or_eq_of_le m0 with c | c
    · exact c
    · exact absurd (Prod.ext c.symm l1.symm) n0
  have d2 : (p (j + 1)).1 < (p (j + 2)).1 := by
    rcases Int.lt_or_eq_of_le m2 with c | c
    · exact c
    · exact absurd (Prod.ext c l2.symm) n1
  have l2' : (p (j + 2)).2 = (p (j + 1)).2 := l2
  refine h.spike j ⟨?_, ?_⟩
  · unfold turn; rw [l2', l1]; simp
  · unfold dot; rw [l2', l1]
    have := mpp (show 0 < (p j).1 - (p (j + 1)).1 by omega) (show 0 < (p (j + 2)).1 - (p (j + 1)).1 by omega)
    simp; omega
/-- The left of a border is gone round once, or its right is, the other way round. -/
theorem Simple.lam01 {p : Nat → Int × Int} {n : Nat} (h : Simple p n) : lam p n 0 = 0 ∨ lam p n 0 = 1 := by
  obtain ⟨i, hi, hne⟩ := h.not_level
  obtain ⟨B, hB⟩ := lower_bound (fun i => (sc 2 (p i)).1) n
  have hper : p n = p 0 := by rw [show n = 0 + n by omega, h.per]
  have hs := h.scale (show (0 : Int) < 2 by decide)
  have hall : ∀ i, i ≤ n → B < (sc 2 (p i)).1 := hB
  have z := wsum_left (p := fun i => sc 2 (p i)) (n := n) (by show sc 2 (p n) = sc 2 (p 0); rw [hper]) (y := (B, 2 * min (p i).2 (p (i + 1)).2 + 1)) hB
  have f := hs.first_hit (y := (B, 2 * min (p i).2 (p (i + 1)).2 + 1)) (fun i => by unfold sc; simp only; omega)
  rw [lam_scale h (by decide)] at f
  rcases f with ⟨f, _⟩ | f | f
  · exfalso
    have := f i hi
    rw [cr_left (hB i (by omega)) (hB (i + 1) (by omega))] at this
    unfold sc at this
    simp only at this
    rcases Int.lt_or_gt_of_ne hne with c | c
    · rw [if_neg (by omega), if_pos (by omega)] at this; omega
    · rw [if_pos (by omega), if_neg (by omega)] at this; omega
  · left; omega
  · right; omega
/-- A border goes round a point once or not at all: what is not on it is on its left or on its right. -/
theorem Simple.around {p : Nat → Int × Int} {n : Nat} (h : Simple p n) {x : Int × Int} (hx : ∀ i, i < n → onB (p i) (p (i + 1)) x = false) : wsum p n x = lam p n 0 ∨ wsum p n x = lam p n 0 - 1 := by
  have h3 := h.three
  obtain ⟨k0, hk0⟩ := bound_all (P := fun j k => apart (k * x.1 + 0, k * x.2 + 0) (k * x.1 + 0, k * x.2 + 1) (sc k (p j)) (sc k (p (j + 1)))) n (fun j hj => near_apart (hx j hj) (0, 0) (0, 1))
  obtain ⟨k, hk⟩ : ∃ k : Int, k = max k0 2 := ⟨_, rfl⟩
  have hkp : 0 < k := by omega
  have ha := hk0 k (by omega) hkp
  have hs := h.scale hkp
  have hper : sc k (p n) = sc k (p 0) := by rw [show n = 0 + n by omega, h.per]
  have e1 := wsum_free (p := fun i => sc k (p i)) (n := n) hper ha
  have e2 : wsum (fun i => sc k (p i)) n (k * x.1 + 0, k * x.2 + 0) = wsum p n x := by
    have : ((k * x.1 + 0, k * x.2 + 0) : Int × Int) = sc k x := by unfold sc; simp
    rw [this, wsum_sc hkp]
  have f := hs.first_hit (y := (k * x.1 + 0, k * x.2 + 1)) (fun i e => by
    unfold sc at e
    simp only at e
    have : k * ((p i).2 - x.2) = 1 := by grind
    have hd : k ∣ 1 := ⟨_, this.symm⟩
    have := Int.le_of_dvd (by decide) hd
    omega)
  rw [lam_scale h hkp, ← e1, e2] at f
  rcases f with ⟨_, f⟩ | f | f
  · have := h.lam01; omega
  · exact .inl f
  · exact .inr f
end Go.Proofs.Ythiemglckmociaa
/- Plain geometry of plots, third part: the area, told by points, and its sign. No program in sight. No conditions. -/
namespace Go.Proofs.Ythiemglckmociaa
theorem sumN_const (c : Int) : ∀ n : Nat, sumN (fun _ => c) n = n * c
  | 0 => by simp [sumN]
  | n + 1 => by rw [sumN, sumN_const c n]; grind
theorem sumN_mul (c : Int) (f : Nat → Int) : ∀ n : Nat, sumN (fun i => c * f i) n = c * sumN f n
  | 0 => by simp [sumN]
  | n + 1 => by rw [sumN, sumN, sumN_mul c f n]; grind
theorem sumN_swap (f : Nat → Nat → Int) (m : Nat) : ∀ n : Nat, sumN (fun i => sumN (fun j => f i j) m) n = sumN (fun j => sumN (fun i => f i j) n) m
  | 0 => by rw [sumN, sumN_zero]; intro j _; rfl
  | n + 1 => by
    rw [sumN, sumN_swap f m n, ← sumN_add]
    exact sumN_congr fun j _ => by rw [sumN]
theorem sumN_split (f : Nat → Int) (m : Nat) : ∀ n : Nat, sumN f (m + n) = sumN f m + sumN (fun i => f (m + i)) n
  | 0 => by simp [sumN]
  | n + 1 => by rw [← Nat.add_assoc, sumN, sumN_split f m n, sumN]; omega
theorem sumN_nonneg {f : Nat → Int} : ∀ {n : Nat}, (∀ i, i < n → 0 ≤ f i) → 0 ≤ sumN f n
  | 0, _ => by simp [sumN]
  | n + 1, h => by
    have := sumN_nonneg (n := n) (fun i hi => h i (by omega))
    have := h n (by omega)
    rw [sumN]; omega
theorem sumN_ge {f : Nat → Int} {i : Nat} : ∀ {n : Nat}, i < n → (∀ j, j < n → 0 ≤ f j) → f i ≤ sumN f n
  | 0, h, _ => by omega
  | n + 1, h, hz => by
    rw [sumN]
    by_cases e : i = n
    · subst e; have := sumN_nonneg (fun j hj => hz j (show j < i + 1 by omega)) (n := i); omega
    · have := sumN_ge (n := n) (i := i) (by omega) (fun j hj => hz j (by omega)); have := hz n (by omega); omega
/-- A sum over the whole numbers from -B to B. -/
def sumB (B : Nat) (f : Int → Int) : Int := sumN (fun i => f ((i : Int) - B)) (2 * B + 1)
theorem sumB_congr {B : Nat} {f g : Int → Int} (h : ∀ x : Int, -B ≤ x → x ≤ B → f x = g x) : sumB B f = sumB B g := sumN_congr fun i hi => h _ (by omega) (by omega)
theorem sumB_add {B : Nat} {f g : Int → Int} : sumB B (fun x => f x + g x) = sumB B f + sumB B g := sumN_add
/-- How many are below a bound. -/
theorem sumB_below {B : Nat} {t : Int} (h1 : -B ≤ t) (h2 : t ≤ B) : sumB B (fun x => if x < t then 1 else 0) = t + B := by
  unfold sumB
  obtain ⟨m, hm⟩ : ∃ m : Nat, (m : Int) = t + B := ⟨(t + B).toNat, by omega⟩
  rw [show 2 * B + 1 = m + (2 * B + 1 - m) by omega, sumN_split, sumN_congr (g := fun _ => 1) (fun i hi => if_pos (by omega)), sumN_const,
    sumN_zero (fun i _ => if_neg (by simp only [Int.natCast_add]; omega))]
  omega
theorem sumB_above {B : Nat} {t : Int} (h1 : -B ≤ t) (h2 : t ≤ B) : sumB B (fun x => if t < x then 1 else 0) = B - t := by
  have h := sumB_below (B := B) (t := t + 1 - 1) (by omega) (by omega)
  have e : sumB B (fun x => (if x < t then 1 else 0) + (if t < x then 1 else 0) + (if x = t then 1 else 0)) = 2 * B + 1 := by
    rw [sumB_congr (g := fun _ => 1)]
    · unfold sumB; rw [sumN_const]; omega
    · intro x _ _
      rcases Int.lt_trichotomy x t with c | c | c
      · rw [if_pos c, if_neg (by omega), if_neg (by omega)]; rfl
      · rw [if_neg (by omega), if_neg (by omega), if_pos c]; rfl
      · rw [if_neg (by omega), if_pos c, if_neg (by omega)]; rfl
  have e1 : sumB B (fun x => if x = t then 1 else 0) = 1 := by
    unfold sumB
    obtain ⟨m, hm⟩ : ∃ m : Nat, (m : Int) = t + B := ⟨(t + B).toNat, by omega⟩
    rw [sumN_one (i := m) (by omega) (fun j _ hj => if_neg (by omega)), if_pos (by omega)]
  rw [sumB_add, sumB_add, e1] at e
  rw [show t + 1 - 1 = t by omega] at h
  omega
/-- A sum over a window. -/
theorem sumB_window {B : Nat} {a b : Int} (f : Int → Int) (h1 : -B ≤ a) (h2 : a ≤ b) (h3 : b ≤ B + 1) : sumB B (fun y => if a ≤ y ∧ y < b then f y else 0) = sumN (fun i => f (a + i)) (b - a).toNat := by
  unfold sumB
  obtain ⟨m, hm⟩ : ∃ m : Nat, (m : Int) = a + B := ⟨(a + B).toNat, by omega⟩
  obtain ⟨d, hd⟩ : ∃ d : Nat, (d : Int) = b - a := ⟨(b - a).toNat, by omega⟩
  rw [show 2 * B + 1 = m + (d + (2 * B + 1 - m - d)) by omega, sumN_split, sumN_split, sumN_zero (fun i hi => if_neg (by omega)),
    sumN_congr (g := fun i => f (a + i)) (fun i hi => by
      show (if a ≤ ((m + i : Nat) : Int) - B ∧ ((m + i : Nat) : Int) - B < b then f (((m + i : Nat) : Int) - B) else 0) = _
      rw [if_pos (by omega)]; congr 1; omega),
    sumN_zero (n := 2 * B + 1 - m - d) (fun i hi => if_neg (by simp only [Int.natCast_add]; omega))]
  rw [show (b - a).toNat = d by omega]
  omega
theorem sumN_rev (f : Nat → Int) : ∀ n : Nat, sumN (fun i => f (n - 1 - i)) n = sumN f n
  | 0 => rfl
  | n + 1 => by
    rw [show n + 1 = 1 + n by omega, sumN_split]
    rw [sumN_congr (n := n) (g := fun i => f (n - 1 - i)) (fun i hi => by congr 1; omega), sumN_rev f n, show 1 + n = n + 1 by omega]
    have e1 : ∀ g : Nat → Int, sumN g 1 = g 0 := fun g => by simp [sumN]
    rw [e1]
    show f (n + 1 - 1 - 0) + sumN f n = sumN f n + f n
    rw [show n + 1 - 1 - 0 = n by omega]; omega
def neg (a : Int × Int) : Int × Int := (-a.1, -a.2)
theorem turn_neg (a b c : Int × Int) : turn (neg a) (neg b) (neg c) = turn a b c := by unfold turn neg; grind
/-- The bound to the left of which a ray meets a side that leads upward. -/
theorem bound_at {a b : Int × Int} {y : Int} (h1 : a.2 ≤ y) (h2 : y ≤ b.2) (h3 : a.2 < b.2) {B : Nat} (ha : -B ≤ a.1 ∧ a.1 ≤ B) (hb : -B ≤ b.1 ∧ b.1 ≤ B) :
    ∃ t s : Int, -B ≤ t ∧ t ≤ B ∧ -B ≤ s ∧ s ≤ B ∧ (∀ x, 0 < turn a b (x, y) ↔ x < t) ∧ (∀ x, turn a b (x, y) < 0 ↔ s < x) := by
  obtain ⟨D, hD⟩ : ∃ D, D = b.2 - a.2 := ⟨_, rfl⟩
  obtain ⟨N, hN⟩ : ∃ N, N = (b.1 - a.1) * (y - a.2) + D * a.1 := ⟨_, rfl⟩
  have hDp : 0 < D := by omega
  have e : ∀ x, turn a b (x, y) = N - D * x := fun x => by rw [hN, hD]; unfold turn; grind
  -- D * (-B) ≤ N ≤ D * B
  have eN : N = (y - a.2) * b.1 + (b.2 - y) * a.1 := by rw [hN, hD]; grind
  have l1 := Int.mul_le_mul_of_nonneg_left hb.1 (show 0 ≤ y - a.2 by omega)
  have l2 := Int.mul_le_mul_of_nonneg_left ha.1 (show 0 ≤ b.2 - y by omega)
  have l3 := Int.mul_le_mul_of_nonneg_left hb.2 (show 0 ≤ y - a.2 by omega)
  have l4 := Int.mul_le_mul_of_nonneg_left ha.2 (show 0 ≤ b.2 - y by omega)
  have lo : D * (-B) ≤ N := by
    have : D * (-(B : Int)) = (y - a.2) * (-B) + (b.2 - y) * (-B) := by rw [hD]; grind
    omega
  have hi : N ≤ D * B := by
    have : D * (B : Int) = (y - a.2) * B + (b.2 - y) * B := by rw [hD]; grind
    omega
  have f1 := Int.mul_ediv_add_emod N D
  have f2 := Int.emod_nonneg N (show D ≠ 0 by omega)
  have f3 := Int.emod_lt_of_pos N hDp
  have g1 := Int.mul_ediv_add_emod (-N) D
  have g2 := Int.emod_nonneg (-N) (show D ≠ 0 by omega)
  have g3 := Int.emod_lt_of_pos (-N) hDp
  have le_of : ∀ u v : Int, D * u ≤ D * v → u ≤ v := fun u v h => Int.le_of_mul_le_mul_left h hDp
  have lt_of : ∀ u v : Int, D * u < D * v → u < v := fun u v h => Int.lt_of_mul_lt_mul_left h (by omega)
  have mul_lt : ∀ u v : Int, u < v → D * u + D ≤ D * v := fun u v h => by
    have := Int.mul_le_mul_of_nonneg_left (show u + 1 ≤ v by omega) (show 0 ≤ D by omega)
    rw [Int.mul_add, Int.mul_one] at this; omega
  have mul_le : ∀ u v : Int, u ≤ v → D * u ≤ D * v := fun u v h => Int.mul_le_mul_of_nonneg_left h (by omega)
  refine ⟨-(-N / D), N / D, ?_, ?_, ?_, ?_, fun x => ?_, fun x => ?_⟩
  · rcases Int.lt_or_le (-(-N / D)) (-B) with c | c
    · have := mul_lt _ _ c
      have : D * -(-N / D) = -(D * (-N / D)) := by grind
      omega
    · exact c
  · rcases Int.lt_or_le (B : Int) (-(-N / D)) with c | c
    · have := mul_lt _ _ c
      have : D * -(-N / D) = -(D * (-N / D)) := by grind
      omega
    · exact c
  · rcases Int.lt_or_le (N / D) (-B) with c | c
    · have := mul_lt _ _ c; omega
    · exact c
  · rcases Int.lt_or_le (B : Int) (N / D) with c | c
    · have := mul_lt _ _ c; omega
    · exact c
  · rw [e]
    have h : D * -(-N / D) = -(D * (-N / D)) := by grind
    constructor
    · intro h0
      rcases Int.lt_or_le x (-(-N / D)) with c | c
      · exact c
      · have := mul_le _ _ c; omega
    · intro h0
      have := mul_lt _ _ h0; omega
  · rw [e]
    constructor
    · intro h0
      rcases Int.lt_or_le (N / D) x with c | c
      · exact c
      · have := mul_le _ _ c; omega
    · intro h0
      have := mul_lt _ _ h0; omega
def sum2 (B : Nat) (f : Int × Int → Int) : Int := sumB B fun y => sumB B fun x => f (x, y)
theorem sum2_add {B : Nat} {f g : Int × Int → Int} : sum2 B (fun x => f x + g x) = sum2 B f + sum2 B g := by
  unfold sum2
  rw [← sumB_add]; congr 1; funext y; exact sumB_add
theorem sum2_zero {B : Nat} : sum2 B (fun _ => 0) = 0 := sumN_zero fun _ _ => sumN_zero fun _ _ => rfl
theorem sum2_sumN {B : Nat} (f : Nat → Int × Int → Int) : ∀ n : Nat, sum2 B (fun x => sumN (fun i => f i x) n) = sumN (fun i => sum2 B (f i)) n
  | 0 => sum2_zero
  | n + 1 => by
    rw [sumN, ← sum2_sumN f n, ← sum2_add]; rfl
theorem edge_up {a b : Int × Int} {B : Nat} (ha : (-B ≤ a.1 ∧ a.1 ≤ B) ∧ -B ≤ a.2 ∧ a.2 ≤ B) (hb : (-B ≤ b.1 ∧ b.1 ≤ B) ∧ -B ≤ b.2 ∧ b.2 ≤ B) (hab : a.2 < b.2) :
    sum2 B (fun x => cr x a b + cr (neg x) (neg a) (neg b)) = (b.2 - a.2) * (a.1 + b.1) := by
  have hex : ∀ y : Int, ∃ t s : Int, a.2 ≤ y → y ≤ b.2 → -B ≤ t ∧ t ≤ B ∧ -B ≤ s ∧ s ≤ B ∧ (∀ x, 0 < turn a b (x, y) ↔ x < t) ∧ (∀ x, turn a b (x, y) < 0 ↔ s < x) := fun y => by
    by_cases c : a.2 ≤ y ∧ y ≤ b.2
    · obtain ⟨t, s, h⟩ := bound_at c.1 c.2 hab ha.1 hb.1
      exact ⟨t, s, fun _ _ => h⟩
    · exact ⟨0, 0, fun h1 h2 => absurd ⟨h1, h2⟩ c⟩
  obtain ⟨t, ht⟩ : ∃ t : Int → Int, ∀ y, ∃ s : Int, a.2 ≤ y → y ≤ b.2 → -B ≤ t y ∧ t y ≤ B ∧ -B ≤ s ∧ s ≤ B ∧ (∀ x, 0 < turn a b (x, y) ↔ x < t y) ∧ (∀ x, turn a b (x, y) < 0 ↔ s < x) :=
    ⟨fun y => (hex y).choose, fun y => (hex y).choose_spec⟩
  obtain ⟨s, hs⟩ : ∃ s : Int → Int, ∀ y, a.2 ≤ y → y ≤ b.2 → -B ≤ t y ∧ t y ≤ B ∧ -B ≤ s y ∧ s y ≤ B ∧ (∀ x, 0 < turn a b (x, y) ↔ x < t y) ∧ (∀ x, turn a b (x, y) < 0 ↔ s y < x) :=
    ⟨fun y => (ht y).choose, fun y => (ht y).choose_spec⟩
  have hst : ∀ y, a.2 ≤ y → y ≤ b.2 → s (a.2 + b.2 - y) = a.1 + b.1 - t y := fun y h1 h2 => by
    obtain ⟨_, _, _, _, k1, _⟩ := hs y h1 h2
    obtain ⟨_, _, _, _, _, k2⟩ := hs (a.2 + b.2 - y) (by omega) (by omega)
    have e : ∀ x, turn a b (x, a.2 + b.2 - y) = - turn a b (a.1 + b.1 - x, y) := fun x => by unfold turn; grind
    have h : ∀ x, s (a.2 + b.2 - y) < x ↔ a.1 + b.1 - x < t y := fun x => by
      rw [← k2, ← k1, e]; omega
    have p1 := h (s (a.2 + b.2 - y) + 1)
    have p2 := h (s (a.2 + b.2 - y))
    omega
  rw [sum2_add]
  have r1 : sum2 B (fun x => cr x a b) = sumN (fun i => t (a.2 + i) + B) (b.2 - a.2).toNat := by
    rw [← sumB_window (B := B) (fun y => t y + B) ha.2.1 (Int.le_of_lt hab) (by omega)]
    refine sumB_congr fun y h1 h2 => ?_
    by_cases c : a.2 ≤ y ∧ y < b.2
    · obtain ⟨g1, g2, _, _, k1, _⟩ := hs y c.1 (by omega)
      rw [if_pos c, ← sumB_below g1 g2]
      refine sumB_congr fun x _ _ => ?_
      unfold cr
      refine if_iff ?_ rfl ?_
      · rw [k1]; simp only; exact ⟨fun h => h.2.2, fun h => ⟨c.1, c.2, h⟩⟩
      · rw [if_neg (by simp only; omega)]
    · rw [if_neg c]
      refine sumN_zero fun i _ => ?_
      show cr ((i : Int) - B, y) a b = 0
      unfold cr
      rw [if_neg (by simp only; omega), if_neg (by simp only; omega)]
  have r2 : sum2 B (fun x => cr (neg x) (neg a) (neg b)) = sumN (fun i => s (a.2 + 1 + i) - B) (b.2 - a.2).toNat := by
    have := sumB_window (B := B) (a := a.2 + 1) (b := b.2 + 1) (fun y => s y - B) (by omega) (by omega) (by omega)
    rw [show b.2 + 1 - (a.2 + 1) = b.2 - a.2 by omega] at this
    rw [← this]
    refine sumB_congr fun y h1 h2 => ?_
    by_cases c : a.2 + 1 ≤ y ∧ y < b.2 + 1
    · obtain ⟨_, _, g1, g2, _, k1⟩ := hs y (by omega) (by omega)
      rw [if_pos c]
      show sumB B (fun x => cr (neg (x, y)) (neg a) (neg b)) = s y - B
      have e := sumB_above g1 g2
      have e2 : sumB B (fun x => cr (neg (x, y)) (neg a) (neg b)) + sumB B (fun x => if s y < x then 1 else 0) = 0 := by
        rw [← sumB_add]
        refine sumN_zero fun i _ => ?_
        show cr (neg ((i : Int) - B, y)) (neg a) (neg b) + (if s y < (i : Int) - B then 1 else 0) = 0
        have ec : cr (neg ((i : Int) - B, y)) (neg a) (neg b) = if s y < (i : Int) - B then -1 else 0 := by
          unfold cr
          rw [turn_neg, if_neg (by show ¬ (-a.2 ≤ -y ∧ -y < -b.2 ∧ _); omega)]
          exact if_iff ⟨fun h => (k1 _).1 h.2.2, fun h => ⟨by show -b.2 ≤ -y; omega, by show -y < -a.2; omega, (k1 _).2 h⟩⟩ rfl rfl
        rw [ec]
        by_cases cx : s y < (i : Int) - B
        · rw [if_pos cx, if_pos cx]; rfl
        · rw [if_neg cx, if_neg cx]; rfl
      omega
    · rw [if_neg c]
      refine sumN_zero fun i _ => ?_
      show cr (neg ((i : Int) - B, y)) (neg a) (neg b) = 0
      unfold cr
      have e3 : ∀ x : Int, (neg (x, y)).2 = -y := fun _ => rfl
      have e4 : (neg a).2 = -a.2 := rfl
      have e5 : (neg b).2 = -b.2 := rfl
      rw [e3, e4, e5, if_neg (by omega), if_neg (by omega)]
  rw [r1, r2]
  obtain ⟨d, hd⟩ : ∃ d : Nat, (d : Int) = b.2 - a.2 := ⟨(b.2 - a.2).toNat, by omega⟩
  rw [show (b.2 - a.2).toNat = d by omega, ← sumN_rev (fun i => s (a.2 + 1 + i) - B) d, ← sumN_add, sumN_congr (g := fun _ => a.1 + b.1) (fun i hi => ?_), sumN_const, hd]
  have := hst (a.2 + i) (by omega) (by omega)
  have e : a.2 + 1 + ((d - 1 - i : Nat) : Int) = a.2 + b.2 - (a.2 + i) := by omega
  rw [e, this]; omega
theorem cr_level {a b x : Int × Int} (h : a.2 = b.2) : cr x a b = 0 := by
  unfold cr; rw [if_neg (by omega), if_neg (by omega)]
theorem edge_sum {a b : Int × Int} {B : Nat} (ha : (-B ≤ a.1 ∧ a.1 ≤ B) ∧ -B ≤ a.2 ∧ a.2 ≤ B) (hb : (-B ≤ b.1 ∧ b.1 ≤ B) ∧ -B ≤ b.2 ∧ b.2 ≤ B) :
    sum2 B (fun x => cr x a b + cr (neg x) (neg a) (neg b)) = (b.2 - a.2) * (a.1 + b.1) := by
  rcases Int.lt_trichotomy a.2 b.2 with c | c | c
  · exact edge_up ha hb c
  · have : (fun x => cr x a b + cr (neg x) (neg a) (neg b)) = fun _ => 0 := funext fun x => by rw [cr_level c, cr_level (by unfold neg; simp [c])]; rfl
    rw [this, sum2_zero, c]; simp
  · have h := edge_up hb ha c
    have h0 : sum2 B (fun x => (cr x a b + cr (neg x) (neg a) (neg b)) + (cr x b a + cr (neg x) (neg b) (neg a))) = 0 := by
      rw [← sum2_zero (B := B)]; congr 1; funext x
      rw [cr_swap x a b, cr_swap (neg x) (neg a) (neg b)]; omega
    rw [sum2_add, h] at h0
    have : (b.2 - a.2) * (a.1 + b.1) = -((a.2 - b.2) * (b.1 + a.1)) := by grind
    omega
/-- Twice the area, above 0 if the corners turn left. -/
def area (p : Nat → Int × Int) (n : Nat) : Int := sumN (fun i => (p i).1 * (p (i + 1)).2 - (p (i + 1)).1 * (p i).2) n
theorem area_eq {p : Nat → Int × Int} {n : Nat} (hper : p n = p 0) : area p n = sumN (fun i => ((p (i + 1)).2 - (p i).2) * ((p i).1 + (p (i + 1)).1)) n := by
  have e : sumN (fun i => ((p (i + 1)).2 - (p i).2) * ((p i).1 + (p (i + 1)).1)) n =
      sumN (fun i => ((p i).1 * (p (i + 1)).2 - (p (i + 1)).1 * (p i).2) + ((p (i + 1)).1 * (p (i + 1)).2 - (p i).1 * (p i).2)) n := sumN_congr fun i _ => by grind
  rw [e, sumN_add, sumN_tele (fun i => (p i).1 * (p i).2), hper]
  unfold area; omega
/-- The area, told by points. -/
theorem area_points {p : Nat → Int × Int} {n : Nat} (hper : p n = p 0) {B : Nat} (h : ∀ i, (-B ≤ (p i).1 ∧ (p i).1 ≤ B) ∧ -B ≤ (p i).2 ∧ (p i).2 ≤ B) :
    sum2 B (fun x => wsum p n x + wsum (fun i => neg (p i)) n (neg x)) = area p n := by
  rw [area_eq hper]
  have : (fun x => wsum p n x + wsum (fun i => neg (p i)) n (neg x)) = fun x => sumN (fun i => cr x (p i) (p (i + 1)) + cr (neg x) (neg (p i)) (neg (p (i + 1)))) n :=
    funext fun x => by unfold wsum; rw [← sumN_add]
  rw [this, sum2_sumN (fun i x => cr x (p i) (p (i + 1)) + cr (neg x) (neg (p i)) (neg (p (i + 1))))]
  exact sumN_congr fun i _ => edge_sum (h i) (h (i + 1))
/-- Near a point, to the right and a little above, a ray meets a side just as it does from the point itself; and no side is touched there. -/
theorem cr_near (a b x : Int × Int) (hab : a ≠ b) (D : Int) (hD : (b.1 - a.1).natAbs < D) : ∃ k0 : Int, ∀ k, k0 ≤ k → 0 < k →
    cr (k * x.1 + D, k * x.2 + 1) (sc k a) (sc k b) = cr x a b ∧ onB (sc k a) (sc k b) (k * x.1 + D, k * x.2 + 1) = false := by
  obtain ⟨c, hc⟩ : ∃ c, c = (b.1 - a.1) - (b.2 - a.2) * D := ⟨_, rfl⟩
  refine ⟨c.natAbs + 2, fun k hk h0 => ?_⟩
  have ht : turn (sc k a) (sc k b) (k * x.1 + D, k * x.2 + 1) = k * (k * turn a b x + c) := by rw [hc]; unfold turn sc; grind
  obtain ⟨g1, g2, g3⟩ := sign_mul (k := k) (t := k * turn a b x + c) h0
  have hle : ∀ u v : Int, (k * u ≤ k * v + 1 ↔ u ≤ v) ∧ (k * v + 1 < k * u ↔ v < u) := fun u v => by
    rcases Int.lt_or_le v u with c' | c'
    · have := Int.mul_le_mul_of_nonneg_left (show v + 1 ≤ u by omega) (show 0 ≤ k by omega)
      rw [Int.mul_add, Int.mul_one] at this
      exact ⟨by omega, by omega⟩
    · have := Int.mul_le_mul_of_nonneg_left c' (show 0 ≤ k by omega)
      exact ⟨by omega, by omega⟩
  rcases Int.lt_trichotomy (turn a b x) 0 with t | t | t
  · have := Int.mul_le_mul_of_nonneg_left (show turn a b x ≤ -1 by omega) (show 0 ≤ k by omega)
    have hn : turn (sc k a) (sc k b) (k * x.1 + D, k * x.2 + 1) < 0 := by rw [ht, g2]; omega
    constructor
    · unfold cr
      refine if_iff ⟨fun h => by omega, fun h => by omega⟩ rfl (if_iff ?_ rfl rfl)
      unfold sc; simp only
      rw [(hle _ _).1, (hle _ _).2]
      unfold sc at hn
      exact ⟨fun h => ⟨h.1, h.2.1, t⟩, fun h => ⟨h.1, h.2.1, hn⟩⟩
    · cases h : onB (sc k a) (sc k b) (k * x.1 + D, k * x.2 + 1)
      · rfl
      · have := (onB_turn h).1; omega
  · have hc0 : turn (sc k a) (sc k b) (k * x.1 + D, k * x.2 + 1) = k * c := by rw [ht, t]; simp
    obtain ⟨g1, g2, g3⟩ := sign_mul (k := k) (t := c) h0
    have hne : c ≠ 0 := fun e => by
      rcases Int.lt_trichotomy (b.2 - a.2) 0 with z | z | z
      · have := Int.mul_le_mul_of_nonneg_right (show b.2 - a.2 ≤ -1 by omega) (show 0 ≤ D by omega)
        omega
      · rw [z] at hc; simp at hc
        exact hab (Prod.ext (by omega) (by omega))
      · have := Int.mul_le_mul_of_nonneg_right (show 1 ≤ b.2 - a.2 by omega) (show 0 ≤ D by omega)
        omega
    constructor
    · rw [cr_on t]
      unfold cr
      rw [hc0, if_neg, if_neg]
      · unfold sc; simp only
        rw [(hle _ _).1, (hle _ _).2, g2]
        rintro ⟨h1, h2, h3⟩
        have := Int.mul_le_mul_of_nonneg_right (show b.2 - a.2 ≤ -1 by omega) (show 0 ≤ D by omega)
        omega
      · unfold sc; simp only
        rw [(hle _ _).1, (hle _ _).2, g1]
        rintro ⟨h1, h2, h3⟩
        have := Int.mul_le_mul_of_nonneg_right (show 1 ≤ b.2 - a.2 by omega) (show 0 ≤ D by omega)
        omega
    · cases h : onB (sc k a) (sc k b) (k * x.1 + D, k * x.2 + 1)
      · rfl
      · have := (onB_turn h).1; omega
  · have := Int.mul_le_mul_of_nonneg_left (show 1 ≤ turn a b x by omega) (show 0 ≤ k by omega)
    have hn : 0 < turn (sc k a) (sc k b) (k * x.1 + D, k * x.2 + 1) := by rw [ht, g1]; omega
    constructor
    · unfold cr
      refine if_iff ?_ rfl (if_iff ⟨fun h => by omega, fun h => by omega⟩ rfl rfl)
      unfold sc; simp only
      rw [(hle _ _).1, (hle _ _).2]
      unfold sc at hn
      exact ⟨fun h => ⟨h.1, h.2.1, t⟩, fun h => ⟨h.1, h.2.1, hn⟩⟩
    · cases h : onB (sc k a) (sc k b) (k * x.1 + D, k * x.2 + 1)
      · rfl
      · have := (onB_turn h).1; omega
theorem upper_bound (f : Nat → Int) : ∀ n : Nat, ∃ B : Int, 0 < B ∧ ∀ i, i < n → (f i).natAbs < B
  | 0 => ⟨1, by decide, fun i hi => by omega⟩
  | n + 1 => by
    obtain ⟨B, h0, h⟩ := upper_bound f n
    refine ⟨max B ((f n).natAbs + 1), by omega, fun i hi => ?_⟩
    by_cases c : i = n
    · subst c; omega
    · have := h i (by omega); omega
/-- Any point, on the border too, is gone round as what is on the left or on the right. -/
theorem Simple.around_any {p : Nat → Int × Int} {n : Nat} (h : Simple p n) (x : Int × Int) : wsum p n x = lam p n 0 ∨ wsum p n x = lam p n 0 - 1 := by
  have h3 := h.three
  obtain ⟨D, _, hD⟩ := upper_bound (fun i => (p (i + 1)).1 - (p i).1) n
  obtain ⟨k0, hk0⟩ := bound_all n (fun j hj => cr_near (p j) (p (j + 1)) x (h.ne_next j) D (hD j hj))
  have hk := hk0 (max k0 1) (by omega) (by omega)
  have hs := (h.scale (show 0 < max k0 1 by omega)).around (x := (max k0 1 * x.1 + D, max k0 1 * x.2 + 1)) (fun i hi => (hk i hi).2)
  rw [lam_scale h (by omega)] at hs
  have e : wsum (fun i => sc (max k0 1) (p i)) n (max k0 1 * x.1 + D, max k0 1 * x.2 + 1) = wsum p n x := sumN_congr fun i hi => (hk i hi).1
  rw [← e]; exact hs
theorem neg_inj {a b : Int × Int} (h : neg a = neg b) : a = b := by
  unfold neg at h
  rw [Prod.mk.injEq] at h
  exact Prod.ext (by omega) (by omega)
theorem dot_neg (a b c : Int × Int) : dot (neg a) (neg b) (neg c) = dot a b c := by unfold dot neg; grind
theorem onB_neg (a b x : Int × Int) : onB (neg a) (neg b) (neg x) = onB a b x := by unfold onB; rw [turn_neg, dot_neg]
theorem apart_neg {x y a b : Int × Int} (h : apart x y a b) : apart (neg x) (neg y) (neg a) (neg b) := by
  obtain ⟨h1, h2, h3, h4, h5⟩ := h
  refine ⟨by rw [onB_neg]; exact h1, by rw [onB_neg]; exact h2, by rw [onB_neg]; exact h3, by rw [onB_neg]; exact h4, ?_⟩
  rw [turn_neg, turn_neg, turn_neg, turn_neg]; exact h5
theorem Simple.neg {p : Nat → Int × Int} {n : Nat} (h : Simple p n) : Simple (fun i => neg (p i)) n := by
  refine ⟨h.three, fun i => by rw [h.per], fun i j hi hj e => h.inj i j hi hj (neg_inj e), fun i => ?_, fun i j hi hj h1 h2 h3 => apart_neg (h.free i j hi hj h1 h2 h3)⟩
  rw [turn_neg, dot_neg]; exact h.spike i
theorem up_neg {a b : Int × Int} (hab : a ≠ b) : up (neg a) (neg b) = 1 - up a b := by
  have : ¬ (a.2 = b.2 ∧ a.1 = b.1) := fun h => hab (Prod.ext h.2 h.1)
  unfold up neg
  simp only
  by_cases c : a.2 < b.2 ∨ (a.2 = b.2 ∧ b.1 < a.1)
  · rw [if_pos c, if_neg (by omega)]; rfl
  · rw [if_neg c, if_pos (by omega)]; rfl
/-- Rays to the left and to the right: what they meet differs by where the ends lie. -/
theorem cr_both {a b x : Int × Int} (h : onB a b x = false) : cr x a b - cr (neg x) (neg a) (neg b) = up x b - up x a := by
  have main : ∀ a b : Int × Int, a.2 ≤ b.2 → onB a b x = false → cr x a b - cr (Go.Proofs.Ythiemglckmociaa.neg x) (Go.Proofs.Ythiemglckmociaa.neg a) (Go.Proofs.Ythiemglckmociaa.neg b) = up x b - up x a := fun a b hab h => by
    have e1 : cr x a b = if a.2 ≤ x.2 ∧ x.2 < b.2 ∧ 0 < turn a b x then 1 else 0 := by
      unfold cr; split
      · rfl
      · rw [if_neg (by omega)]
    have e2 : cr (Go.Proofs.Ythiemglckmociaa.neg x) (Go.Proofs.Ythiemglckmociaa.neg a) (Go.Proofs.Ythiemglckmociaa.neg b) = if a.2 < x.2 ∧ x.2 ≤ b.2 ∧ turn a b x < 0 then -1 else 0 := by
      unfold cr
      rw [turn_neg, if_neg (by unfold Go.Proofs.Ythiemglckmociaa.neg; simp only; omega)]
      exact if_iff (by unfold Go.Proofs.Ythiemglckmociaa.neg; simp only; omega) rfl rfl
    rw [e1, e2]
    by_cases hl : a.2 = b.2
    · rw [if_neg (by omega), if_neg (by omega)]
      by_cases hx : a.2 = x.2
      · -- on one line: both ends on one side
        have ht : turn a b x = 0 := by unfold turn; rw [← hx, ← hl]; simp
        have hd := dot_pos_of_off h ht
        unfold dot at hd
        rw [hx, ← hl, hx] at hd
        simp only [Int.sub_self, Int.mul_zero, Int.add_zero] at hd
        unfold up
        rcases Int.lt_trichotomy (a.1 - x.1) 0 with c | c | c
        · have : b.1 - x.1 < 0 := by
            rcases Int.lt_or_le (b.1 - x.1) 0 with c' | c'
            · exact c'
            · have := mnp0 (Int.le_of_lt c) c'; omega
          rw [if_pos (by omega), if_pos (by omega)] <;> rfl
        · rw [c] at hd; simp at hd
        · have : 0 < b.1 - x.1 := by
            rcases Int.lt_or_le 0 (b.1 - x.1) with c' | c'
            · exact c'
            · have := mpn0 (Int.le_of_lt c) c'; omega
          rw [if_neg (by omega), if_neg (by omega)] <;> rfl
      · unfold up
        by_cases c : x.2 < b.2
        · rw [if_pos (by omega), if_pos (by omega)] <;> rfl
        · rw [if_neg (by omega), if_neg (by omega)] <;> rfl
    · have hlt : a.2 < b.2 := by omega
      have hoff : a.2 ≤ x.2 → x.2 ≤ b.2 → turn a b x ≠ 0 := fun h1 h2 h3 => by
        rw [on_y h3 h1 h2 hlt] at h; cases h
      have e : turn a b x = (x.2 - a.2) * (b.1 - x.1) + (b.2 - x.2) * (a.1 - x.1) := by unfold turn; grind
      unfold up
      by_cases c1 : x.2 < a.2
      · rw [if_neg (by omega), if_neg (by omega), if_pos (by omega), if_pos (by omega)] <;> rfl
      · by_cases c2 : b.2 < x.2
        · rw [if_neg (by omega), if_neg (by omega), if_neg (by omega), if_neg (by omega)] <;> rfl
        · have hne := hoff (by omega) (by omega)
          by_cases c3 : x.2 = a.2
          · have e3 : turn a b x = (a.1 - x.1) * (b.2 - x.2) := by rw [e, c3]; grind
            have hp : 0 < b.2 - x.2 := by omega
            rw [if_neg (c := a.2 < x.2 ∧ _) (by omega), if_pos (c := x.2 < b.2 ∨ _) (by omega)]
            rcases Int.lt_trichotomy (turn a b x) 0 with c | c | c
            · have := fneg (by rw [← e3]; exact c) hp
              rw [if_neg (by omega), if_pos (by omega)] <;> rfl
            · exact absurd c hne
            · have := fpos (by rw [← e3]; exact c) hp
              rw [if_pos (by omega), if_neg (by omega)] <;> rfl
          · by_cases c4 : x.2 = b.2
            · have e3 : turn a b x = (b.1 - x.1) * (x.2 - a.2) := by rw [e, c4]; grind
              have hp : 0 < x.2 - a.2 := by omega
              rw [if_neg (c := a.2 ≤ x.2 ∧ _) (by omega), if_neg (c := x.2 < a.2 ∨ _) (by omega)]
              rcases Int.lt_trichotomy (turn a b x) 0 with c | c | c
              · have := fneg (by rw [← e3]; exact c) hp
                rw [if_pos (by omega), if_pos (by omega)] <;> rfl
              · exact absurd c hne
              · have := fpos (by rw [← e3]; exact c) hp
                rw [if_neg (by omega), if_neg (by omega)] <;> rfl
            · rw [if_pos (c := x.2 < b.2 ∨ _) (by omega), if_neg (c := x.2 < a.2 ∨ _) (by omega)]
              rcases Int.lt_trichotomy (turn a b x) 0 with c | c | c
              · rw [if_neg (by omega), if_pos (by omega)] <;> rfl
              · exact absurd c hne
              · rw [if_pos (by omega), if_neg (by omega)] <;> rfl
  rcases Int.le_total a.2 b.2 with c | c
  · exact main a b c h
  · have := main b a c (by rw [onB_swap]; exact h)
    rw [cr_swap x a b, cr_swap (Go.Proofs.Ythiemglckmociaa.neg x) (Go.Proofs.Ythiemglckmociaa.neg a) (Go.Proofs.Ythiemglckmociaa.neg b)] at this
    omega
theorem up_inn {a b m : Int × Int} (h : inn a b m) : up m b = up a b ∧ up m a = 1 - up a b := by
  obtain ⟨h1, h2, h3⟩ := h
  obtain ⟨ht, hd⟩ := onB_turn h1
  obtain ⟨b1, b2⟩ := (on_iff ht).1 hd
  have ex : ∀ u v : Int × Int, u ≠ v → ¬ (u.1 = v.1 ∧ u.2 = v.2) := fun u v h e => h (Prod.ext e.1 e.2)
  have x1 := ex _ _ h2
  have x2 := ex _ _ h3
  have eA : (b.2 - a.2) * (m.1 - a.1) = (b.1 - a.1) * (m.2 - a.2) := by unfold turn at ht; omega
  have eB : (b.2 - a.2) * (b.1 - m.1) = (b.1 - a.1) * (b.2 - m.2) := by unfold turn at ht; grind
  have kA : b.2 ≠ a.2 → m.2 = a.2 → m.1 = a.1 := fun k1 k2 => by
    rw [k2] at eA; simp only [Int.sub_self, Int.mul_zero] at eA
    rcases Int.mul_eq_zero.1 eA with c | c <;> omega
  have kB : b.2 ≠ a.2 → m.2 = b.2 → m.1 = b.1 := fun k1 k2 => by
    rw [k2] at eB; simp only [Int.sub_self, Int.mul_zero] at eB
    rcases Int.mul_eq_zero.1 eB with c | c <;> omega
  clear eA eB
  unfold up
  rcases Int.lt_trichotomy a.2 b.2 with c | c | c
  · have := kA (by omega); have := kB (by omega)
    rw [if_pos (c := a.2 < b.2 ∨ _) (by omega), if_pos (by omega), if_neg (by omega)]; exact ⟨rfl, rfl⟩
  · by_cases d : b.1 < a.1
    · rw [if_pos (c := a.2 < b.2 ∨ _) (by omega), if_pos (by omega), if_neg (by omega)]; exact ⟨rfl, rfl⟩
    · rw [if_neg (c := a.2 < b.2 ∨ _) (by omega), if_neg (by omega), if_pos (by omega)]; exact ⟨rfl, rfl⟩
  · have := kA (by omega); have := kB (by omega)
    rw [if_neg (c := a.2 < b.2 ∨ _) (by omega), if_neg (by omega), if_pos (by omega)]; exact ⟨rfl, rfl⟩
/-- Inside a side: rays to the right and to the left. -/
theorem Simple.inside_both {p : Nat → Int × Int} {n : Nat} (h : Simple p n) {i : Nat} (hi : i < n) {m : Int × Int} (hm : inn (p i) (p (i + 1)) m) :
    wsum p n m - wsum (fun i => Go.Proofs.Ythiemglckmociaa.neg (p i)) n (Go.Proofs.Ythiemglckmociaa.neg m) = 1 - 2 * up (p i) (p (i + 1)) := by
  have h3 := h.three
  obtain ⟨u1, u2⟩ := up_inn hm
  have ht := (onB_turn hm.1).1
  have e := sumN_one (f := fun j => (cr m (p j) (p (j + 1)) - cr (Go.Proofs.Ythiemglckmociaa.neg m) (Go.Proofs.Ythiemglckmociaa.neg (p j)) (Go.Proofs.Ythiemglckmociaa.neg (p (j + 1)))) - (up m (p (j + 1)) - up m (p j))) (i := i) hi (fun j hj hij => by
    have := cr_both (h.inside_off hi hj hij hm)
    omega)
  have hper : p n = p 0 := by rw [show n = 0 + n by omega, h.per]
  rw [sumN_sub, sumN_sub, sumN_tele (fun j => up m (p j)), hper] at e
  simp only [cr_on ht, cr_on (show turn (Go.Proofs.Ythiemglckmociaa.neg (p i)) (Go.Proofs.Ythiemglckmociaa.neg (p (i + 1))) (Go.Proofs.Ythiemglckmociaa.neg m) = 0 by rw [turn_neg]; exact ht)] at e
  show sumN (fun i => cr m (p i) (p (i + 1))) n - sumN (fun i => cr (Go.Proofs.Ythiemglckmociaa.neg m) (Go.Proofs.Ythiemglckmociaa.neg (p i)) (Go.Proofs.Ythiemglckmociaa.neg (p (i + 1)))) n = _
  omega
theorem up_sc {k : Int} (hk : 0 < k) (a b : Int × Int) : up (sc k a) (sc k b) = up a b := by
  unfold up sc
  have a1 : k * a.2 < k * b.2 ↔ a.2 < b.2 := Int.mul_lt_mul_left hk
  have a2 : k * b.1 < k * a.1 ↔ b.1 < a.1 := Int.mul_lt_mul_left hk
  have a3 : k * a.2 = k * b.2 ↔ a.2 = b.2 := ⟨fun e => Int.eq_of_mul_eq_mul_left (show k ≠ 0 by omega) e, fun e => by rw [e]⟩
  exact if_iff (by simp only [a1, a2, a3]) rfl rfl
theorem sc_neg (k : Int) (a : Int × Int) : sc k (neg a) = neg (sc k a) := by unfold sc neg; simp only [Int.mul_neg]
theorem inn_neg {a b x : Int × Int} (h : inn a b x) : inn (neg a) (neg b) (neg x) := ⟨by rw [onB_neg]; exact h.1, fun e => h.2.1 (neg_inj e), fun e => h.2.2 (neg_inj e)⟩
theorem Simple.lam_neg {p : Nat → Int × Int} {n : Nat} (h : Simple p n) : lam (fun i => Go.Proofs.Ythiemglckmociaa.neg (p i)) n 0 = lam p n 0 := by
  have h3 := h.three
  have hm := mid_inn (h.ne_next 0)
  have e1 := (h.scale (show (0 : Int) < 2 by decide)).inside_both (show 0 < n by omega) hm
  have e2 := h.lam_eq 0 (show (0 : Int) < 2 by decide) hm
  have hmn := inn_neg hm
  rw [← sc_neg, ← sc_neg] at hmn
  have e3 := h.neg.lam_eq 0 (show (0 : Int) < 2 by decide) hmn
  have ef : (fun i => sc 2 (Go.Proofs.Ythiemglckmociaa.neg (p i))) = fun i => Go.Proofs.Ythiemglckmociaa.neg (sc 2 (p i)) := funext fun i => sc_neg _ _
  rw [up_sc (by decide)] at e1
  rw [up_neg (h.ne_next 0), ef] at e3
  omega
theorem Simple.bounded {p : Nat → Int × Int} {n : Nat} (h : Simple p n) : ∃ B : Nat, ∀ i, (-B ≤ (p i).1 ∧ (p i).1 ≤ B) ∧ -B ≤ (p i).2 ∧ (p i).2 ≤ B := by
  have h3 := h.three
  obtain ⟨B, b0, hB⟩ := upper_bound (fun i => (p i).1) n
  obtain ⟨C, c0, hC⟩ := upper_bound (fun i => (p i).2) n
  refine ⟨(max B C).toNat, fun i => ?_⟩
  have h1 := hB (i % n) (Nat.mod_lt _ (by omega))
  have h2 := hC (i % n) (Nat.mod_lt _ (by omega))
  rw [h.mod] at h1 h2
  omega
theorem area_sc (k : Int) (p : Nat → Int × Int) (n : Nat) : area (fun i => sc k (p i)) n = k * k * area p n := by
  unfold area
  rw [← sumN_mul]
  exact sumN_congr fun i _ => by unfold sc; grind
/-- The area's sign is that of the direction: twice the area is not 0. -/
theorem Simple.area_pos {p : Nat → Int × Int} {n : Nat} (h : Simple p n) : 0 < (2 * lam p n 0 - 1) * area p n := by
  have h3 := h.three
  have hs := h.scale (show (0 : Int) < 2 by decide)
  obtain ⟨B, hB⟩ := hs.bounded
  have hper : sc 2 (p n) = sc 2 (p 0) := by rw [show n = 0 + n by omega, h.per]
  have ea := area_points (p := fun i => sc 2 (p i)) (n := n) hper hB
  rw [area_sc] at ea
  have hl := lam_scale h (show (0 : Int) < 2 by decide)
  have hl01 := h.lam01
  have hln := hs.lam_neg
  rw [hl] at hln
  obtain ⟨s, hs1⟩ : ∃ s, s = 2 * lam p n 0 - 1 := ⟨_, rfl⟩
  rw [← hs1]
  have hpt : ∀ x, 0 ≤ s * (wsum (fun i => sc 2 (p i)) n x + wsum (fun i => Go.Proofs.Ythiemglckmociaa.neg (sc 2 (p i))) n (Go.Proofs.Ythiemglckmociaa.neg x)) := fun x => by
    have a1 := hs.around_any x
    have a2 := hs.neg.around_any (Go.Proofs.Ythiemglckmociaa.neg x)
    rw [hl] at a1
    rw [hln] at a2
    rcases hl01 with c | c
    · rw [hs1, c]; simp only [c] at a1 a2; omega
    · rw [hs1, c]; simp only [c] at a1 a2; omega
  -- the middle of the first side
  obtain ⟨m, hm⟩ : ∃ m, m = near 2 (p (0 + 1)) (p 0) := ⟨_, rfl⟩
  have hmi := mid_inn (h.ne_next 0)
  rw [← hm] at hmi
  have e1 := hs.inside_both (show 0 < n by omega) hmi
  rw [up_sc (by decide)] at e1
  have e2 := h.lam_eq 0 (show (0 : Int) < 2 by decide) hmi
  have hval : s * (wsum (fun i => sc 2 (p i)) n m + wsum (fun i => Go.Proofs.Ythiemglckmociaa.neg (sc 2 (p i))) n (Go.Proofs.Ythiemglckmociaa.neg m)) = 1 := by
    have : wsum (fun i => sc 2 (p i)) n m + wsum (fun i => Go.Proofs.Ythiemglckmociaa.neg (sc 2 (p i))) n (Go.Proofs.Ythiemglckmociaa.neg m) = s := by omega
    rw [this]
    rcases hl01 with c | c
    · rw [hs1, c]; rfl
    · rw [hs1, c]; rfl
  have hbox : (-B ≤ m.1 ∧ m.1 ≤ B) ∧ -B ≤ m.2 ∧ m.2 ≤ B := by
    obtain ⟨ht, hd⟩ := onB_turn hmi.1
    have := (on_iff ht).1 hd
    have := hB 0; have := hB (0 + 1)
    omega
  have hsum : 1 ≤ s * (2 * 2 * area p n) := by
    rw [← ea]
    have em : s * sum2 B (fun x => wsum (fun i => sc 2 (p i)) n x + wsum (fun i => Go.Proofs.Ythiemglckmociaa.neg (sc 2 (p i))) n (Go.Proofs.Ythiemglckmociaa.neg x)) =
        sum2 B (fun x => s * (wsum (fun i => sc 2 (p i)) n x + wsum (fun i => Go.Proofs.Ythiemglckmociaa.neg (sc 2 (p i))) n (Go.Proofs.Ythiemglckmociaa.neg x))) := by
      unfold sum2 sumB
      rw [← sumN_mul]
      exact sumN_congr fun i _ => by rw [← sumN_mul]
    rw [em, ← hval]
    unfold sum2 sumB
    obtain ⟨i, hi⟩ : ∃ i : Nat, (i : Int) = m.2 + B := ⟨(m.2 + B).toNat, by omega⟩
    obtain ⟨j, hj⟩ : ∃ j : Nat, (j : Int) = m.1 + B := ⟨(m.1 + B).toNat, by omega⟩
    have emm : (((j : Int) - B, (i : Int) - B) : Int × Int) = m := Prod.ext (by simp only; omega) (by simp only; omega)
    refine Int.le_trans ?_ (sumN_ge (i := i) (by omega) (fun i _ => sumN_nonneg fun j _ => hpt _))
    refine Int.le_trans ?_ (sumN_ge (i := j) (by omega) (fun j _ => hpt _))
    show _ ≤ s * (wsum (fun i => sc 2 (p i)) n ((j : Int) - B, (i : Int) - B) + wsum (fun i => Go.Proofs.Ythiemglckmociaa.neg (sc 2 (p i))) n (Go.Proofs.Ythiemglckmociaa.neg ((j : Int) - B, (i : Int) - B)))
    rw [emm]; exact Int.le_refl _
  have : s * (2 * 2 * area p n) = (s * area p n) * 4 := by grind
  omega
end Go.Proofs.Ythiemglckmociaa
/- Plain geometry of plots, fourth part: a plot split at two corners. No program in sight. No conditions. -/
namespace Go.Proofs.Ythiemglckmociaa
/-- The corners from the first one to corner m. -/
def part (p : Nat → Int × Int) (m : Nat) (k : Nat) : Int × Int := p (k % (m + 1))
/-- The line from the first corner to corner m touches no side but at its ends. -/
structure Diag (p : Nat → Int × Int) (n m : Nat) : Prop where
  lo : 2 ≤ m
  hi : m + 2 ≤ n
  s0 : ¬ (turn (p m) (p 0) (p 1) = 0 ∧ 0 < dot (p 0) (p m) (p 1))
  s1 : ¬ (turn (p (m - 1)) (p m) (p 0) = 0 ∧ 0 < dot (p m) (p (m - 1)) (p 0))
  t0 : ¬ (turn (p 0) (p m) (p (m + 1)) = 0 ∧ 0 < dot (p m) (p 0) (p (m + 1)))
  t1 : ¬ (turn (p (n - 1)) (p 0) (p m) = 0 ∧ 0 < dot (p 0) (p (n - 1)) (p m))
  free : ∀ k, k < n → k ≠ 0 → k + 1 ≠ m → k ≠ m → k + 1 ≠ n → apart (p 0) (p m) (p k) (p (k + 1))
theorem part_lt {p : Nat → Int × Int} {m k : Nat} (h : k ≤ m) : part p m k = p k := by unfold part; rw [Nat.mod_eq_of_lt (by omega)]
theorem part_end (p : Nat → Int × Int) (m : Nat) : part p m (m + 1) = p 0 := by unfold part; rw [Nat.mod_self]
theorem part_end2 {p : Nat → Int × Int} {m : Nat} (h : 1 ≤ m) : part p m (m + 2) = p 1 := by
  unfold part; rw [show m + 2 = 1 + (m + 1) by omega, Nat.add_mod_right, Nat.mod_eq_of_lt (by omega)]
theorem part_mod (p : Nat → Int × Int) (m i c : Nat) : part p m (i % (m + 1) + c) = part p m (i + c) := by unfold part; rw [Nat.mod_add_mod]
theorem Simple.per1 {p : Nat → Int × Int} {n : Nat} (h : Simple p n) : p n = p 0 := by have := h.per 0; rwa [Nat.zero_add] at this
theorem Diag.part {p : Nat → Int × Int} {n m : Nat} (h : Simple p n) (d : Diag p n m) : Simple (part p m) (m + 1) := by
  have lo := d.lo; have hi := d.hi
  refine ⟨by omega, fun i => by unfold Go.Proofs.Ythiemglckmociaa.part; rw [Nat.add_mod_right], ?_, ?_, ?_⟩
  · intro i j hi' hj e
    rw [part_lt (by omega), part_lt (by omega)] at e
    exact h.inj i j (by omega) (by omega) e
  · intro i
    have hm : i % (m + 1) < m + 1 := Nat.mod_lt _ (by omega)
    have e0 : Go.Proofs.Ythiemglckmociaa.part p m (i % (m + 1)) = Go.Proofs.Ythiemglckmociaa.part p m i := part_mod p m i 0
    rw [← part_mod p m i 1, ← part_mod p m i 2, ← e0]
    generalize i % (m + 1) = r at hm
    by_cases c1 : r + 2 ≤ m
    · rw [part_lt (by omega), part_lt (by omega), part_lt c1]; exact h.spike r
    · by_cases c2 : r = m
      · subst c2
        rw [part_lt (Nat.le_refl _), part_end, part_end2 (by omega)]; exact d.s0
      · have : r = m - 1 := by omega
        subst this
        rw [part_lt (by omega), part_lt (by omega), show m - 1 + 2 = m + 1 by omega, part_end, show m - 1 + 1 = m by omega]; exact d.s1
  · have key : ∀ j, 0 < j → j + 1 < m → apart (p m) (p 0) (p j) (p (j + 1)) := fun j h0 h1 =>
      apart_flip (d.free j (by omega) (by omega) (by omega) (by omega) (by omega))
    intro i j hi' hj hji h1 h2
    by_cases ci : i = m
    · subst ci
      rw [Nat.mod_self] at h2
      have hjm : j < i := by omega
      rw [Nat.mod_eq_of_lt (by omega)] at h1
      rw [part_lt (Nat.le_refl _), part_end, part_lt (by omega), part_lt (by omega)]
      exact key j (by omega) (by omega)
    · by_cases cj : j = m
      · subst cj
        rw [Nat.mod_self] at h1
        rw [Nat.mod_eq_of_lt (by omega)] at h2
        rw [part_lt (Nat.le_refl _), part_end, part_lt (by omega), part_lt (by omega)]
        exact apart_symm (key i (by omega) (by omega))
      · rw [Nat.mod_eq_of_lt (by omega)] at h1 h2
        rw [part_lt (by omega), part_lt (by omega), part_lt (by omega), part_lt (by omega)]
        refine h.free i j (by omega) (by omega) hji ?_ ?_
        · rw [Nat.mod_eq_of_lt (by omega)]; exact h1
        · rw [Nat.mod_eq_of_lt (by omega)]; exact h2
/-- The same line, seen from its other end. -/
theorem Diag.swap {p : Nat → Int × Int} {n m : Nat} (h : Simple p n) (d : Diag p n m) : Diag (fun k => p (k + m)) n (n - m) := by
  have lo := d.lo; have hi := d.hi
  have e0 : p (n - m + m) = p 0 := by rw [show n - m + m = n by omega]; exact h.per1
  have e1 : p (n - m + 1 + m) = p 1 := by rw [show n - m + 1 + m = 1 + n by omega]; exact h.per 1
  have e2 : p (n - 1 + m) = p (m - 1) := by rw [show n - 1 + m = (m - 1) + n by omega]; exact h.per _
  have e3 : p (n - m - 1 + m) = p (n - 1) := by rw [show n - m - 1 + m = n - 1 by omega]
  refine ⟨by omega, by omega, ?_, ?_, ?_, ?_, ?_⟩
  · simp only [e0, Nat.zero_add]; rw [show 1 + m = m + 1 by omega]; exact d.t0
  · simp only [e0, e3, Nat.zero_add]; exact d.t1
  · simp only [e0, e1, Nat.zero_add]; exact d.s0
  · simp only [e0, e2, Nat.zero_add]; exact d.s1
  · intro k hk h1 h2 h3 h4
    simp only [e0, Nat.zero_add]
    refine apart_flip ?_
    by_cases c : k + m < n
    · rw [show k + 1 + m = k + m + 1 by omega]
      exact d.free (k + m) c (by omega) (by omega) (by omega) (by omega)
    · have f1 : p (k + m) = p (k + m - n) := by
        have := h.per (k + m - n)
        rwa [show k + m - n + n = k + m by omega] at this
      have f2 : p (k + 1 + m) = p (k + m - n + 1) := by
        have := h.per (k + m - n + 1)
        rwa [show k + m - n + 1 + n = k + 1 + m by omega] at this
      rw [f1, f2]
      exact d.free (k + m - n) (by omega) (by omega) (by omega) (by omega) (by omega)
/-- Sums over the border are sums over both parts' borders, if what the line gives one way is taken back the other way. -/
theorem part_sum {p : Nat → Int × Int} {n m : Nat} (hper : p n = p 0) (hm : m ≤ n) (f : Int × Int → Int × Int → Int) (hf : ∀ a b, f b a = - f a b) :
    sumN (fun i => f (p i) (p (i + 1))) n = sumN (fun i => f (part p m i) (part p m (i + 1))) (m + 1) +
      sumN (fun i => f (part (fun k => p (k + m)) (n - m) i) (part (fun k => p (k + m)) (n - m) (i + 1))) (n - m + 1) := by
  have e1 : sumN (fun i => f (part p m i) (part p m (i + 1))) (m + 1) = sumN (fun i => f (p i) (p (i + 1))) m + f (p m) (p 0) := by
    rw [sumN, part_lt (Nat.le_refl _), part_end]
    congr 1
    exact sumN_congr fun i hi => by rw [part_lt (by omega), part_lt (by omega)]
  have e2 : sumN (fun i => f (part (fun k => p (k + m)) (n - m) i) (part (fun k => p (k + m)) (n - m) (i + 1))) (n - m + 1) = sumN (fun i => f (p (m + i)) (p (m + i + 1))) (n - m) + f (p 0) (p m) := by
    rw [sumN, part_lt (Nat.le_refl _), part_end]
    show _ + f (p (n - m + m)) (p (0 + m)) = _
    rw [Nat.zero_add, show n - m + m = n by omega, hper]
    congr 1
    refine sumN_congr fun i hi => ?_
    rw [part_lt (by omega), part_lt (by omega)]
    show f (p (i + m)) (p (i + 1 + m)) = _
    rw [show i + m = m + i by omega, show i + 1 + m = m + i + 1 by omega]
  rw [e1, e2, hf (p 0) (p m)]
  have := sumN_split (fun i => f (p i) (p (i + 1))) m (n - m)
  rw [show m + (n - m) = n by omega] at this
  rw [this]; omega
theorem wsum_parts {p : Nat → Int × Int} {n m : Nat} (hper : p n = p 0) (hm : m ≤ n) (x : Int × Int) :
    wsum p n x = wsum (part p m) (m + 1) x + wsum (part (fun k => p (k + m)) (n - m)) (n - m + 1) x :=
  part_sum hper hm (fun a b => cr x a b) (fun a b => cr_swap x a b)
theorem area_parts {p : Nat → Int × Int} {n m : Nat} (hper : p n = p 0) (hm : m ≤ n) :
    area p n = area (part p m) (m + 1) + area (part (fun k => p (k + m)) (n - m)) (n - m + 1) :=
  part_sum hper hm (fun a b => a.1 * b.2 - b.1 * a.2) (fun a b => by omega)
theorem sc_part (k : Int) (p : Nat → Int × Int) (m : Nat) : (fun i => sc k (part p m i)) = part (fun i => sc k (p i)) m := rfl
theorem up_rev {a b : Int × Int} (h : a ≠ b) : up a b + up b a = 1 := by
  have : ¬ (a.1 = b.1 ∧ a.2 = b.2) := fun e => h (Prod.ext e.1 e.2)
  unfold up
  split <;> split <;> omega
/-- The middle of the line between two corners, with everything twice as large. -/
def mid2 (a b : Int × Int) : Int × Int := (a.1 + b.1, a.2 + b.2)
theorem mid2_near (a b : Int × Int) : mid2 a b = near 2 b a := by unfold mid2 near; exact Prod.ext (by simp only; omega) (by simp only; omega)
theorem mid2_swap (a b : Int × Int) : mid2 a b = mid2 b a := by unfold mid2; exact Prod.ext (by simp only; omega) (by simp only; omega)
/-- What the parts' directions tell of the middle of the line. -/
theorem Diag.lam_sum {p : Nat → Int × Int} {n m : Nat} (h : Simple p n) (d : Diag p n m) :
    lam (Go.Proofs.Ythiemglckmociaa.part p m) (m + 1) 0 + lam (Go.Proofs.Ythiemglckmociaa.part (fun k => p (k + m)) (n - m)) (n - m + 1) 0 = wsum (fun i => sc 2 (p i)) n (mid2 (p 0) (p m)) + 1 := by
  have lo := d.lo; have hi := d.hi
  have hl := d.part h
  have hs : Simple (fun k => p (k + m)) n := h.shift m
  have hr := (d.swap h).part hs
  have hne : p 0 ≠ p m := fun e => by have := h.inj 0 m (by omega) (by omega) e; omega
  have e1 := hl.lam_eq m (k := 2) (by decide) (x := mid2 (p 0) (p m)) (by rw [part_lt (Nat.le_refl _), part_end, mid2_swap, mid2_near]; exact mid_inn fun e => hne e.symm)
  have hpn : p n = p 0 := h.per1
  have e2 := hr.lam_eq (n - m) (k := 2) (by decide) (x := mid2 (p 0) (p m)) (by
    rw [part_lt (Nat.le_refl _), part_end]
    show inn (sc 2 (p (n - m + m))) (sc 2 (p (0 + m))) _
    rw [Nat.zero_add, show n - m + m = n by omega, hpn, mid2_near]
    exact mid_inn hne)
  have l1 := hl.lam_all m
  have l2 := hr.lam_all (n - m)
  rw [part_lt (Nat.le_refl _), part_end] at e1
  rw [part_lt (Nat.le_refl _), part_end] at e2
  rw [Nat.zero_add, show n - m + m = n by omega, hpn] at e2
  have hw := wsum_parts (p := fun i => sc 2 (p i)) (n := n) (m := m) (by simp only [hpn]) (by omega) (mid2 (p 0) (p m))
  have hu := up_rev hne
  rw [sc_part] at e1 e2
  have hfe : (fun i => sc 2 ((fun k => p (k + m)) i)) = fun k => sc 2 (p (k + m)) := rfl
  rw [hfe] at e2
  omega
/-- A line inside: both parts go round as the whole does. -/
theorem Diag.lam_same {p : Nat → Int × Int} {n m : Nat} (h : Simple p n) (d : Diag p n m) (hc : wsum (fun i => sc 2 (p i)) n (mid2 (p 0) (p m)) ≠ 0) :
    lam (Go.Proofs.Ythiemglckmociaa.part p m) (m + 1) 0 = lam p n 0 ∧ lam (Go.Proofs.Ythiemglckmociaa.part (fun k => p (k + m)) (n - m)) (n - m + 1) 0 = lam p n 0 := by
  have hs := d.lam_sum h
  have hl := (d.part h).lam01
  have hr := ((d.swap h).part (h.shift m)).lam01
  have hp := h.lam01
  have h2 := (h.scale (show (0 : Int) < 2 by decide)).around_any (mid2 (p 0) (p m))
  rw [lam_scale h (by decide)] at h2
  omega
/-- Twice the area, whichever way the corners turn. -/
theorem abs_area {p : Nat → Int × Int} {n : Nat} (h : Simple p n) : max (area p n) (-(area p n)) = (2 * lam p n 0 - 1) * area p n := by
  have h1 := h.area_pos
  rcases h.lam01 with c | c
  · rw [c] at h1 ⊢; omega
  · rw [c] at h1 ⊢; omega
theorem Diag.area_abs {p : Nat → Int × Int} {n m : Nat} (h : Simple p n) (d : Diag p n m) (hc : wsum (fun i => sc 2 (p i)) n (mid2 (p 0) (p m)) ≠ 0) :
    max (area p n) (-(area p n)) = max (area (Go.Proofs.Ythiemglckmociaa.part p m) (m + 1)) (-(area (Go.Proofs.Ythiemglckmociaa.part p m) (m + 1))) +
      max (area (Go.Proofs.Ythiemglckmociaa.part (fun k => p (k + m)) (n - m)) (n - m + 1)) (-(area (Go.Proofs.Ythiemglckmociaa.part (fun k => p (k + m)) (n - m)) (n - m + 1))) := by
  have hi := d.hi
  obtain ⟨h1, h2⟩ := d.lam_same h hc
  rw [abs_area h, abs_area (d.part h), abs_area ((d.swap h).part (h.shift m)), h1, h2, area_parts (m := m) h.per1 (by omega), Int.mul_add]
/-- No part goes round a point inside a side of the other part, seen however large. -/
theorem Diag.side_out {p : Nat → Int × Int} {n m : Nat} (h : Simple p n) (d : Diag p n m) (hc : wsum (fun i => sc 2 (p i)) n (mid2 (p 0) (p m)) ≠ 0) {k : Int} (hk : 0 < k) {i : Nat} (h1 : m ≤ i) (h2 : i < n) {x : Int × Int}
    (hx : inn (sc k (p i)) (sc k (p (i + 1))) x) : wsum (fun i => sc k (Go.Proofs.Ythiemglckmociaa.part p m i)) (m + 1) x = 0 := by
  have hi := d.hi
  obtain ⟨e1, e2⟩ := d.lam_same h hc
  have hr := (d.swap h).part (h.shift m)
  have a1 := h.lam_eq i hk hx
  have b0 : Go.Proofs.Ythiemglckmociaa.part (fun k => p (k + m)) (n - m) (i - m) = p i := by
    rw [part_lt (by omega)]; show p (i - m + m) = p i; rw [show i - m + m = i by omega]
  have b1 : Go.Proofs.Ythiemglckmociaa.part (fun k => p (k + m)) (n - m) (i - m + 1) = p (i + 1) := by
    rw [part_lt (by omega)]; show p (i - m + 1 + m) = p (i + 1); rw [show i - m + 1 + m = i + 1 by omega]
  have a2 := hr.lam_eq (i - m) hk (x := x) (by rw [b0, b1]; exact hx)
  rw [b0, b1] at a2
  have l1 := h.lam_all i
  have l2 := hr.lam_all (i - m)
  have hw := wsum_parts (p := fun i => sc k (p i)) (n := n) (m := m) (by simp only [h.per1]) (by omega) x
  rw [sc_part]
  rw [sc_part] at a2
  have hfe : (fun i => sc k ((fun k => p (k + m)) i)) = fun j => sc k (p (j + m)) := rfl
  rw [hfe] at a2
  omega
end Go.Proofs.Ythiemglckmociaa
/- Plain geometry of plots, fifth part: the lowest corner; points parted from a plot; leaving a triangle. No program in sight. No conditions. -/
namespace Go.Proofs.Ythiemglckmociaa
/-- Corner 1 is the lowest, the rightmost of several. -/
def Lowest (p : Nat → Int × Int) (n : Nat) : Prop := ∀ i, i < n → i ≠ 1 → (p 1).2 < (p i).2 ∨ ((p 1).2 = (p i).2 ∧ (p i).1 < (p 1).1)
theorem Lowest.any {p : Nat → Int × Int} {n : Nat} (h : Simple p n) (hl : Lowest p n) (i : Nat) : p i = p 1 ∨ (p 1).2 < (p i).2 ∨ ((p 1).2 = (p i).2 ∧ (p i).1 < (p 1).1) := by
  have h3 := h.three
  rw [← h.mod i]
  by_cases c : i % n = 1
  · exact .inl (by rw [c])
  · exact .inr (hl _ (Nat.mod_lt _ (by omega)) c)
theorem cr_low {v a b : Int × Int} (ha : a = v ∨ v.2 < a.2 ∨ (v.2 = a.2 ∧ a.1 < v.1)) (hb : b = v ∨ v.2 < b.2 ∨ (v.2 = b.2 ∧ b.1 < v.1)) : cr v a b = 0 := by
  have t1 : turn v b v = 0 := by unfold turn; grind
  have t2 : turn a v v = 0 := by unfold turn; grind
  unfold cr
  rw [if_neg, if_neg]
  · rintro ⟨h1, h2, h3⟩
    rcases hb with rfl | hb | ⟨hb1, hb2⟩
    · omega
    · omega
    · have : turn a b v = (b.1 - a.1) * (v.2 - a.2) - (b.2 - a.2) * (v.1 - a.1) := rfl
      have e : turn a b v = (a.2 - b.2) * (v.1 - b.1) := by unfold turn; rw [hb1]; grind
      have := mpp (a := a.2 - b.2) (b := v.1 - b.1) (by omega) (by omega)
      omega
  · rintro ⟨h1, h2, h3⟩
    rcases ha with rfl | ha | ⟨ha1, ha2⟩
    · omega
    · omega
    · have e : turn a b v = -((b.2 - a.2) * (v.1 - a.1)) := by unfold turn; rw [ha1]; grind
      have := mpp (a := b.2 - a.2) (b := v.1 - a.1) (by omega) (by omega)
      omega
theorem Lowest.wsum {p : Nat → Int × Int} {n : Nat} (h : Simple p n) (hl : Lowest p n) : wsum p n (p 1) = 0 :=
  sumN_zero fun i _ => cr_low (hl.any h i) (hl.any h (i + 1))
/-- The lowest corner tells the direction. -/
theorem Simple.ext {p : Nat → Int × Int} {n : Nat} (h : Simple p n) (hl : Lowest p n) : 0 < (2 * lam p n 0 - 1) * turn (p 0) (p 1) (p 2) := by
  have h3 := h.three
  have lu := hl 0 (by omega) (by omega)
  have lw : (p 1).2 < (p 2).2 ∨ ((p 1).2 = (p 2).2 ∧ (p 2).1 < (p 1).1) := by
    rcases hl.any h 2 with e | e
    · exact absurd e (h.ne (by
        by_cases c : n = 3
        · subst c; decide
        · rw [Nat.mod_eq_of_lt (by omega), Nat.mod_eq_of_lt (by omega)]; omega))
    · exact e
  have hsp := h.spike 0
  simp only [Nat.zero_add] at hsp
  have e01 : p 0 ≠ p 1 := fun e => by rw [e] at lu; omega
  have e12 : p 1 ≠ p 2 := fun e => by rw [← e] at lw; omega
  obtain ⟨k1, hk1⟩ := bound_all (P := fun j k => 1 < j → apart (k * (p 1).1 + 0, k * (p 1).2 + 0) (near k (p 1) (p 2)) (sc k (p j)) (sc k (p (j + 1)))) n (fun j hj => by
    by_cases c : 1 < j
    · obtain ⟨k0, hk0⟩ := near_apart (h.corner_off c hj) (0, 0) ((p 2).1 - (p 1).1, (p 2).2 - (p 1).2)
      exact ⟨k0, fun k a b _ => hk0 k a b⟩
    · exact ⟨0, fun k _ _ c' => absurd c' c⟩)
  obtain ⟨k, hkd⟩ : ∃ k : Int, k = max k1 (((p 2).2 - (p 1).2).natAbs + ((p 0).2 - (p 1).2).natAbs + 2) := ⟨_, rfl⟩
  have hk0 : 1 < k := by omega
  have hx : ((k * (p 1).1 + 0, k * (p 1).2 + 0) : Int × Int) = sc k (p 1) := by unfold sc; simp
  have hap := hk1 k (by omega) (by omega)
  rw [hx] at hap
  have hle : (sc k (p 1)).2 ≤ (near k (p 1) (p 2)).2 := by unfold sc near; simp only; omega
  have g := wsum_but2 (p := fun i => sc k (p i)) (n := n) (by omega) (by show sc k (p n) = sc k (p 0); rw [h.per1]) hle (fun j h1 hj => hap j hj h1)
  have z1 : cr (sc k (p 1)) (sc k (p 0)) (sc k (p 1)) = 0 := cr_on (by unfold turn; grind)
  have z2 : cr (sc k (p 1)) (sc k (p 1)) (sc k (p 2)) = 0 := cr_on (by unfold turn; grind)
  have z3 : cr (near k (p 1) (p 2)) (sc k (p 1)) (sc k (p 2)) = 0 := cr_on (by unfold turn near sc; grind)
  have z4 : reg (sc k (p 1)) (near k (p 1) (p 2)) (sc k (p 1)) = 0 := by unfold reg; rw [if_neg (by omega)]
  have tk : turn (sc k (p 1)) (near k (p 1) (p 2)) (sc k (p 2)) = 0 := by unfold turn near sc; grind
  have z5 : reg (sc k (p 1)) (near k (p 1) (p 2)) (sc k (p 2)) = 0 := by unfold reg; rw [tk, if_neg (by omega)]
  -- the point near the lowest corner is below the corner before, if that is higher
  have hup : (p 1).2 < (p 0).2 → (near k (p 1) (p 2)).2 < (sc k (p 0)).2 := fun c => by
    unfold near sc
    simp only
    have := Int.mul_le_mul_of_nonneg_left (show 1 ≤ (p 0).2 - (p 1).2 by omega) (show 0 ≤ k by omega)
    rw [Int.mul_sub] at this
    omega
  have z6 : reg (sc k (p 1)) (near k (p 1) (p 2)) (sc k (p 0)) = 0 := by
    unfold reg
    rw [if_neg]
    rintro ⟨c1, c2, _⟩
    rcases lu with c | ⟨c, _⟩
    · have := hup c; omega
    · have : (sc k (p 0)).2 = (sc k (p 1)).2 := by unfold sc; simp only; rw [c]
      omega
  have hw0 : wsum (fun i => sc k (p i)) n (sc k (p 1)) = 0 := by rw [wsum_sc (by omega)]; exact hl.wsum h
  rw [z1, z2, z3, z4, z5, z6, hw0] at g
  have hle2 := h.lam_eq 1 (k := k) (by omega) (near_inn' hk0 e12)
  rw [h.lam_all 1] at hle2
  have hu : up (p 1) (p 2) = 1 := by unfold up; rw [if_pos lw]
  simp only [Nat.reduceAdd] at hle2
  rw [hu] at hle2
  have tt : turn (sc k (p 0)) (sc k (p 1)) (near k (p 1) (p 2)) = k * turn (p 0) (p 1) (p 2) := by unfold turn near sc; grind
  have hne : turn (p 0) (p 1) (p 2) ≠ 0 := fun h0 => by
    have hd := spike_op hsp e01 e12 h0
    unfold dot at hd
    unfold turn at h0
    have a1 : 0 ≤ ((p 0).2 - (p 1).2) * ((p 2).2 - (p 1).2) := mpp0 (by omega) (by omega)
    have a2 : ((p 0).1 - (p 1).1) * ((p 2).1 - (p 1).1) < 0 := by omega
    have a3 : ((p 0).1 - (p 1).1) * ((p 2).2 - (p 1).2) = ((p 0).2 - (p 1).2) * ((p 2).1 - (p 1).1) := by grind
    rcases Int.lt_trichotomy ((p 0).1 - (p 1).1) 0 with c | c | c
    · have c2 : 0 < (p 2).1 - (p 1).1 := by
        rcases Int.lt_or_le 0 ((p 2).1 - (p 1).1) with x | x
        · exact x
        · have := mnn0 (Int.le_of_lt c) x; omega
      have b1 := mnp0 (Int.le_of_lt c) (b := (p 2).2 - (p 1).2) (by omega)
      have b2 := mpp0 (a := (p 0).2 - (p 1).2) (b := (p 2).1 - (p 1).1) (by omega) (by omega)
      have b3 : ((p 0).1 - (p 1).1) * ((p 2).2 - (p 1).2) = 0 := by omega
      have b4 : (p 2).2 - (p 1).2 = 0 := by rcases Int.mul_eq_zero.1 b3 with x | x <;> omega
      omega
    · rw [c] at a2; simp at a2
    · have c2 : (p 2).1 - (p 1).1 < 0 := by
        rcases Int.lt_or_le ((p 2).1 - (p 1).1) 0 with x | x
        · exact x
        · have := mpp0 (Int.le_of_lt c) x; omega
      have b1 := mpp0 (Int.le_of_lt c) (b := (p 2).2 - (p 1).2) (by omega)
      have b2 := mpn0 (a := (p 0).2 - (p 1).2) (b := (p 2).1 - (p 1).1) (by omega) (by omega)
      have b3 : ((p 0).2 - (p 1).2) * ((p 2).1 - (p 1).1) = 0 := by omega
      have b4 : (p 0).2 - (p 1).2 = 0 := by rcases Int.mul_eq_zero.1 b3 with x | x <;> omega
      omega
  rcases Int.lt_trichotomy (turn (p 0) (p 1) (p 2)) 0 with c | c | c
  · have c0 : (p 1).2 < (p 0).2 := by
      rcases lu with x | ⟨x1, x2⟩
      · exact x
      · have e : turn (p 0) (p 1) (p 2) = ((p 1).1 - (p 0).1) * ((p 2).2 - (p 1).2) := by unfold turn; rw [x1]; grind
        have := mpp0 (a := (p 1).1 - (p 0).1) (b := (p 2).2 - (p 1).2) (by omega) (by omega)
        omega
    have hcr : cr (near k (p 1) (p 2)) (sc k (p 0)) (sc k (p 1)) = -1 := by
      unfold cr
      have := hup c0
      rw [if_neg (by omega), if_pos ⟨hle, this, by rw [tt]; exact mpn (by omega) c⟩]
    rw [hcr] at g
    have : lam p n 0 = 0 := by omega
    rw [this]; omega
  · exact absurd c hne
  · have hcr : cr (near k (p 1) (p 2)) (sc k (p 0)) (sc k (p 1)) = 0 := by
      unfold cr
      have := mpp (show 0 < k by omega) c
      rw [if_neg (by omega), if_neg (by rw [tt]; omega)]
    rw [hcr] at g
    have : lam p n 0 = 1 := by omega
    rw [this]; omega
end Go.Proofs.Ythiemglckmociaa
/- Plain geometry of plots, sixth part: points parted from a plot by a line; leaving a triangle; points that two ways have in common. No program in sight. No conditions. -/
namespace Go.Proofs.Ythiemglckmociaa
theorem cr_sep {x a b : Int × Int} {u v g : Int} (hu : u ≤ 0) (hx : u * x.1 + v * x.2 + g < 0) (ha : 0 ≤ u * a.1 + v * a.2 + g) (hb : 0 ≤ u * b.1 + v * b.2 + g) : cr x a b = 0 := by
  have key : ∀ a b : Int × Int, 0 ≤ u * a.1 + v * a.2 + g → 0 ≤ u * b.1 + v * b.2 + g → a.2 ≤ x.2 → x.2 < b.2 → ¬ 0 < turn a b x := fun a b ha hb h1 h2 h3 => by
    have e : (b.2 - a.2) * (u * x.1 + v * x.2 + g) + u * turn a b x = (b.2 - x.2) * (u * a.1 + v * a.2 + g) + (x.2 - a.2) * (u * b.1 + v * b.2 + g) := by unfold turn; grind
    have m1 := mpn (a := b.2 - a.2) (by omega) hx
    have m2 := mnp0 hu (Int.le_of_lt h3)
    have m3 := mpp0 (a := b.2 - x.2) (by omega) ha
    have m4 := mpp0 (a := x.2 - a.2) (by omega) hb
    omega
  unfold cr
  rw [if_neg, if_neg]
  · rintro ⟨h1, h2, h3⟩
    exact key b a hb ha h1 h2 (by rw [turn_swap]; omega)
  · rintro ⟨h1, h2, h3⟩
    exact key a b ha hb h1 h2 h3
/-- What a line parts from all corners is gone round by nothing. -/
theorem wsum_sep {p : Nat → Int × Int} {n : Nat} (hper : p n = p 0) {x : Int × Int} {u v g : Int} (hx : u * x.1 + v * x.2 + g < 0) (h : ∀ i, i ≤ n → 0 ≤ u * (p i).1 + v * (p i).2 + g) : wsum p n x = 0 := by
  rcases Int.lt_or_le 0 u with c | c
  · have hoff : ∀ i, i < n → onB (p i) (p (i + 1)) x = false := fun i hi => by
      cases ho : onB (p i) (p (i + 1)) x
      · rfl
      · have h1 := h i (by omega)
        have h2 := h (i + 1) (by omega)
        have := seg_le (u := -u) (v := -v) (g := -g) ho (by simp only [Int.neg_mul]; omega) (by simp only [Int.neg_mul]; omega)
        simp only [Int.neg_mul] at this
        omega
    have e : ∀ i, i < n → cr x (p i) (p (i + 1)) = up x (p (i + 1)) - up x (p i) := fun i hi => by
      have h1 := h i (by omega)
      have h2 := h (i + 1) (by omega)
      have c0 := cr_both (hoff i hi)
      have c1 := cr_sep (x := neg x) (a := neg (p i)) (b := neg (p (i + 1))) (u := -u) (v := -v) (g := g) (by omega) (by unfold neg; simp only [Int.neg_mul_neg]; omega) (by unfold neg; simp only [Int.neg_mul_neg]; omega) (by unfold neg; simp only [Int.neg_mul_neg]; omega)
      omega
    unfold wsum
    rw [sumN_congr e, sumN_tele (fun i => up x (p i)), hper]
    omega
  · exact sumN_zero fun i hi => cr_sep c hx (h i (by omega)) (h (i + 1) (by omega))
/-- The three weights of a point in a triangle a, b, c. -/
def wA (_a b c z : Int × Int) : Int := turn c b z
def wB (a _b c z : Int × Int) : Int := turn a c z
def wC (a b _c z : Int × Int) : Int := turn b a z
def inT (a b c z : Int × Int) : Prop := 0 ≤ wA a b c z ∧ 0 ≤ wB a b c z ∧ 0 ≤ wC a b c z
theorem weights (a b c z : Int × Int) (u v g : Int) : turn a c b * (u * z.1 + v * z.2 + g) = wA a b c z * (u * a.1 + v * a.2 + g) + wB a b c z * (u * b.1 + v * b.2 + g) + wC a b c z * (u * c.1 + v * c.2 + g) := by
  unfold wA wB wC turn; grind
theorem weights_sum (a b c z : Int × Int) : wA a b c z + wB a b c z + wC a b c z = turn a c b := by unfold wA wB wC turn; grind
/-- A way from within a triangle that leaves it, not below the base, touches one of the other two sides. -/
theorem leave {a b c x q : Int × Int} (hD : 0 < turn a c b) (hx : inT a b c x) (hq : 0 ≤ wB a b c q) (hn : ¬ inT a b c q) (h1 : apart x q a b) (h2 : apart x q b c) : False := by
  obtain ⟨u, v, g, p1, p2, p3, p4⟩ := sep_of_apart h1
  obtain ⟨u', v', g', r1, r2, r3, r4⟩ := sep_of_apart h2
  have X := weights a b c x u v g
  have Q := weights a b c q u v g
  have X' := weights a b c x u' v' g'
  have Q' := weights a b c q u' v' g'
  have s1 := weights_sum a b c x
  have s2 := weights_sum a b c q
  obtain ⟨hA, hB, hC⟩ := hx
  have hq2 : ¬ (0 ≤ wA a b c q ∧ 0 ≤ wC a b c q) := fun ⟨k1, k2⟩ => hn ⟨k1, hq, k2⟩
  clear hn h1 h2
  generalize wA a b c x = gX at *
  generalize wB a b c x = fX at *
  generalize wC a b c x = hX at *
  generalize wA a b c q = gq at *
  generalize wB a b c q = fq at *
  generalize wC a b c q = hq' at *
  generalize turn a c b = D at *
  generalize u * a.1 + v * a.2 + g = Fa at *
  generalize u * b.1 + v * b.2 + g = Fb at *
  generalize u * c.1 + v * c.2 + g = Fc at *
  generalize u * x.1 + v * x.2 + g = Fx at *
  generalize u * q.1 + v * q.2 + g = Fq at *
  generalize u' * a.1 + v' * a.2 + g' = Ga at *
  generalize u' * b.1 + v' * b.2 + g' = Gb at *
  generalize u' * c.1 + v' * c.2 + g' = Gc at *
  generalize u' * x.1 + v' * x.2 + g' = Gx at *
  generalize u' * q.1 + v' * q.2 + g' = Gq at *
  have m1 := mpp hD p3
  have m2 := mpp hD p4
  have m3 := mpp hD r3
  have m4 := mpp hD r4
  -- c is beyond the line of a, b; a is beyond the line of b, c
  have n1 := mpn0 hA p1
  have n2 := mpn0 hB p2
  have n3 : 0 < hX * Fc := by omega
  have hXp : 0 < hX := by
    rcases Int.lt_or_le 0 hX with z | z
    · exact z
    · have : hX = 0 := by omega
      rw [this] at n3; simp at n3
  have Fcp : 0 < Fc := by rw [Int.mul_comm] at n3; exact fpos n3 hXp
  have n4 := mpn0 hB r1
  have n5 := mpn0 hC r2
  have n6 : 0 < gX * Ga := by omega
  have gXp : 0 < gX := by
    rcases Int.lt_or_le 0 gX with z | z
    · exact z
    · have : gX = 0 := by omega
      rw [this] at n6; simp at n6
  have Gap : 0 < Ga := by rw [Int.mul_comm] at n6; exact fpos n6 gXp
  have o1 := mpn0 hq p2
  have o2 := mpn0 hq r1
  have both : gq < 0 ∧ hq' < 0 := by
    by_cases z : gq < 0
    · refine ⟨z, ?_⟩
      have o3 := mnp z Gap
      have o4 : 0 < hq' * Gc := by omega
      rcases Int.lt_or_le hq' 0 with y | y
      · exact y
      · have := mpn0 y r2; omega
    · have z2 : hq' < 0 := by omega
      have o3 := mnp z2 Fcp
      have o4 : 0 < gq * Fa := by omega
      rcases Int.lt_or_le gq 0 with y | y
      · exact ⟨y, z2⟩
      · have := mpn0 y p1; omega
  obtain ⟨g0, h0⟩ := both
  rcases Int.le_total (hX * gq) (gX * hq') with t | t
  · -- by the second line
    have e : (-gq) * (D * Gx) + gX * (D * Gq) = ((-gq) * fX + gX * fq) * Gb + (gX * hq' - hX * gq) * Gc := by rw [X', Q']; grind
    have l1 := mpp (a := -gq) (by omega) m3
    have l2 := mpp gXp m4
    have l3 := mpp0 (a := -gq) (by omega) hB
    have l4 := mpp0 (Int.le_of_lt gXp) hq
    have l5 := mpn0 (a := (-gq) * fX + gX * fq) (by omega) r1
    have l6 := mpn0 (a := gX * hq' - hX * gq) (by omega) r2
    omega
  · have e : (-hq') * (D * Fx) + hX * (D * Fq) = (hX * gq - gX * hq') * Fa + ((-hq') * fX + hX * fq) * Fb := by rw [X, Q]; grind
    have l1 := mpp (a := -hq') (by omega) m1
    have l2 := mpp hXp m2
    have l3 := mpp0 (a := -hq') (by omega) hB
    have l4 := mpp0 (Int.le_of_lt hXp) hq
    have l5 := mpn0 (a := (-hq') * fX + hX * fq) (by omega) p2
    have l6 := mpn0 (a := hX * gq - gX * hq') (by omega) p1
    omega
/-- Two ways that touch have a point in common: told by whole weights. -/
theorem common {x y a b : Int × Int} (h : ¬ apart x y a b) : ∃ l m k t : Int, 0 ≤ l ∧ 0 ≤ m ∧ 0 ≤ k ∧ 0 ≤ t ∧ l + m = k + t ∧ 0 < l + m ∧ l * x.1 + m * y.1 = k * a.1 + t * b.1 ∧ l * x.2 + m * y.2 = k * a.2 + t * b.2 := by
  have pt : ∀ a b z : Int × Int, onB a b z = true → ∃ k t : Int, 0 ≤ k ∧ 0 ≤ t ∧ 0 < k + t ∧ (k + t) * z.1 = k * a.1 + t * b.1 ∧ (k + t) * z.2 = k * a.2 + t * b.2 := fun a b z ho => by
    by_cases hab : a = b
    · subst hab
      obtain ⟨ht, hd⟩ := onB_turn ho
      have hz : z = a := by
        have q1 := sq0 (a.1 - z.1); have q2 := sq0 (a.2 - z.2)
        unfold dot at hd
        have r1 : (a.1 - z.1) * (a.1 - z.1) = 0 := by omega
        have r2 : (a.2 - z.2) * (a.2 - z.2) = 0 := by omega
        have s1 : a.1 - z.1 = 0 := by rcases Int.mul_eq_zero.1 r1 with k | k <;> exact k
        have s2 : a.2 - z.2 = 0 := by rcases Int.mul_eq_zero.1 r2 with k | k <;> exact k
        exact Prod.ext (by omega) (by omega)
      subst hz
      exact ⟨1, 0, by omega, by omega, by omega, by omega, by omega⟩
    · obtain ⟨ht, hd⟩ := onB_turn ho
      have hN := norm_pos hab
      -- weights by the scalar products with b - a
      refine ⟨(b.1 - z.1) * (b.1 - a.1) + (b.2 - z.2) * (b.2 - a.2), (z.1 - a.1) * (b.1 - a.1) + (z.2 - a.2) * (b.2 - a.2), ?_, ?_, ?_, ?_, ?_⟩
      · by_cases e : z = b
        · subst e; simp
        · have := on_ahead (a := b) (b := a) (x := z) (by rw [onB_swap]; exact ho) e
          unfold dot at this
          have e2 : (b.1 - z.1) * (b.1 - a.1) + (b.2 - z.2) * (b.2 - a.2) = (a.1 - b.1) * (z.1 - b.1) + (a.2 - b.2) * (z.2 - b.2) := by grind
          omega
      · by_cases e : z = a
        · subst e; simp
        · have := on_ahead ho e
          unfold dot at this
          have e2 : (z.1 - a.1) * (b.1 - a.1) + (z.2 - a.2) * (b.2 - a.2) = (b.1 - a.1) * (z.1 - a.1) + (b.2 - a.2) * (z.2 - a.2) := by grind
          omega
      · have e2 : (b.1 - z.1) * (b.1 - a.1) + (b.2 - z.2) * (b.2 - a.2) + ((z.1 - a.1) * (b.1 - a.1) + (z.2 - a.2) * (b.2 - a.2)) = (b.1 - a.1) * (b.1 - a.1) + (b.2 - a.2) * (b.2 - a.2) := by grind
        omega
      · unfold turn at ht; grind
      · unfold turn at ht; grind
  by_cases c1 : onB a b x = true
  · obtain ⟨k, t, h1, h2, h3, h4, h5⟩ := pt a b x c1
    exact ⟨k + t, 0, k, t, by omega, by omega, h1, h2, by omega, by omega, by omega, by omega⟩
  by_cases c2 : onB a b y = true
  · obtain ⟨k, t, h1, h2, h3, h4, h5⟩ := pt a b y c2
    exact ⟨0, k + t, k, t, by omega, by omega, h1, h2, by omega, by omega, by omega, by omega⟩
  by_cases c3 : onB x y a = true
  · obtain ⟨k, t, h1, h2, h3, h4, h5⟩ := pt x y a c3
    exact ⟨k, t, k + t, 0, h1, h2, by omega, by omega, by omega, by omega, by omega, by omega⟩
  by_cases c4 : onB x y b = true
  · obtain ⟨k, t, h1, h2, h3, h4, h5⟩ := pt x y b c4
    exact ⟨k, t, 0, k + t, h1, h2, by omega, by omega, by omega, by omega, by omega, by omega⟩
  by_cases c5 : turn x y a * turn x y b < 0 ∧ turn a b x * turn a b y < 0
  · obtain ⟨d1, d2⟩ := c5
    have i0 := id0 a b x y
    have i1 := id1 a b x y 0
    have i2 := id2 a b x y 0
    simp only [Int.sub_zero] at i1 i2
    generalize turn x y a = A at *
    generalize turn x y b = B at *
    generalize turn a b x = X at *
    generalize turn a b y = Y at *
    rcases Int.lt_trichotomy A 0 with z | z | z
    · have hB : 0 < B := by
        rcases Int.lt_or_le 0 B with w | w
        · exact w
        · have := mnn0 (Int.le_of_lt z) w; omega
      have hXY : 0 < X ∧ Y < 0 := by
        rcases Int.lt_trichotomy X 0 with w | w | w
        · have : 0 < Y := by
            rcases Int.lt_or_le 0 Y with w' | w'
            · exact w'
            · have := mnn0 (Int.le_of_lt w) w'; omega
          omega
        · rw [w] at d2; simp at d2
        · have : Y < 0 := by
            rcases Int.lt_or_le Y 0 with w' | w'
            · exact w'
            · have := mpp0 (Int.le_of_lt w) w'; omega
          exact ⟨w, this⟩
      refine ⟨-Y, X, B, -A, by omega, by omega, by omega, by omega, by omega, by omega, ?_, ?_⟩
      · simp only [Int.neg_mul]; omega
      · simp only [Int.neg_mul]; omega
    · rw [z] at d1; simp at d1
    · have hB : B < 0 := by
        rcases Int.lt_or_le B 0 with w | w
        · exact w
        · have := mpp0 (Int.le_of_lt z) w; omega
      have hXY : X < 0 ∧ 0 < Y := by
        rcases Int.lt_trichotomy X 0 with w | w | w
        · have : 0 < Y := by
            rcases Int.lt_or_le 0 Y with w' | w'
            · exact w'
            · have := mnn0 (Int.le_of_lt w) w'; omega
          exact ⟨w, this⟩
        · rw [w] at d2; simp at d2
        · have : Y < 0 := by
            rcases Int.lt_or_le Y 0 with w' | w'
            · exact w'
            · have := mpp0 (Int.le_of_lt w) w'; omega
          omega
      refine ⟨Y, -X, -B, A, by omega, by omega, by omega, by omega, by omega, by omega, ?_, ?_⟩
      · simp only [Int.neg_mul]; omega
      · simp only [Int.neg_mul]; omega
  · exact absurd ⟨by simpa using c1, by simpa using c2, by simpa using c3, by simpa using c4, c5⟩ h
end Go.Proofs.Ythiemglckmociaa
/- Plain geometry of plots, seventh part: some line splits each plot of four corners or more. No program in sight. No conditions. -/
namespace Go.Proofs.Ythiemglckmociaa
theorem on_weights {a b x : Int × Int} {k t S : Int} (hk : 0 ≤ k) (ht : 0 ≤ t) (hs : k + t = S) (hS : 0 < S) (e1 : S * x.1 = k * a.1 + t * b.1) (e2 : S * x.2 = k * a.2 + t * b.2) : onB a b x = true := by
  subst hs
  refine onB_mk ?_ ?_
  · have : (k + t) * turn a b x = 0 := by unfold turn; grind
    rcases Int.mul_eq_zero.1 this with z | z
    · omega
    · exact z
  · have e : (k + t) * (k + t) * dot x a b = -(k * t * ((b.1 - a.1) * (b.1 - a.1) + (b.2 - a.2) * (b.2 - a.2))) := by
      have f1 : (k + t) * (a.1 - x.1) = t * (a.1 - b.1) := by grind
      have f2 : (k + t) * (b.1 - x.1) = k * (b.1 - a.1) := by grind
      have f3 : (k + t) * (a.2 - x.2) = t * (a.2 - b.2) := by grind
      have f4 : (k + t) * (b.2 - x.2) = k * (b.2 - a.2) := by grind
      have : (k + t) * (k + t) * dot x a b = ((k + t) * (a.1 - x.1)) * ((k + t) * (b.1 - x.1)) + ((k + t) * (a.2 - x.2)) * ((k + t) * (b.2 - x.2)) := by unfold dot; grind
      rw [this, f1, f2, f3, f4]; grind
    have q1 := sq0 (b.1 - a.1)
    have q2 := sq0 (b.2 - a.2)
    have m1 := mpp0 (mpp0 hk ht) (show 0 ≤ (b.1 - a.1) * (b.1 - a.1) + (b.2 - a.2) * (b.2 - a.2) by omega)
    have m2 := mpp hS hS
    rcases Int.lt_or_le 0 (dot x a b) with c | c
    · have := mpp m2 c; omega
    · exact c
/-- Points of a side, and another side: apart, unless the corner between them is one of the points. -/
theorem Simple.side_side {p : Nat → Int × Int} {n : Nat} (h : Simple p n) {k j : Nat} (hk : k < n) (hj : j < n) (hjk : j ≠ k) {x y : Int × Int} (hx : onB (p k) (p (k + 1)) x = true) (hy : onB (p k) (p (k + 1)) y = true)
    (hn : (k + 1) % n = j → x ≠ p j ∧ y ≠ p j) (hp : (j + 1) % n = k → x ≠ p k ∧ y ≠ p k) : apart x y (p j) (p (j + 1)) := by
  have h3 := h.three
  by_cases c1 : (k + 1) % n = j
  · have e : p (k + 1) = p j := by rw [← c1, h.mod]
    have e2 : p (k + 2) = p (j + 1) := by
      rw [← c1, ← h.mod ((k + 1) % n + 1), Nat.mod_add_mod, h.mod]
    have hs := h.spike k
    have hne := h.ne_next k
    have hne2 := h.ne_next (k + 1)
    rw [show k + 1 + 1 = k + 2 by omega] at hne2
    have := apart_next hs hne hne2 hx hy (by rw [e]; exact (hn c1).1) (by rw [e]; exact (hn c1).2)
    rw [e, e2] at this
    exact this
  · by_cases c2 : (j + 1) % n = k
    · have e : p (j + 1) = p k := by rw [← c2, h.mod]
      have e2 : p (j + 2) = p (k + 1) := by
        rw [← c2, ← h.mod ((j + 1) % n + 1), Nat.mod_add_mod, h.mod]
      have hs := h.spike j
      have hne := h.ne_next j
      have hne2 := h.ne_next (j + 1)
      rw [show j + 1 + 1 = j + 2 by omega] at hne2
      rw [e, e2] at hs
      have hs' : ¬ (turn (p (k + 1)) (p k) (p j) = 0 ∧ 0 < dot (p k) (p (k + 1)) (p j)) := fun ⟨g1, g2⟩ => hs ⟨by
        have : turn (p j) (p k) (p (k + 1)) = - turn (p (k + 1)) (p k) (p j) := by unfold turn; grind
        omega, by
        have : dot (p k) (p j) (p (k + 1)) = dot (p k) (p (k + 1)) (p j) := by unfold dot; grind
        omega⟩
      have := apart_next hs' (fun e' => h.ne_next k e'.symm) (by rw [← e]; exact fun e' => hne e'.symm) (by rw [onB_swap]; exact hx) (by rw [onB_swap]; exact hy) (hp c2).1 (hp c2).2
      rw [e]
      exact apart_swap this
    · exact apart_part (h.free k j hk hj hjk c2 c1) hx hy
/-- A corner is on no side but its own two: by numbers. -/
theorem Simple.off {p : Nat → Int × Int} {n : Nat} (h : Simple p n) {i k : Nat} (hi : i < n) (hk : k < n) (h1 : k ≠ i) (h2 : (k + 1) % n ≠ i) : onB (p k) (p (k + 1)) (p i) = false := by
  have h3 := h.three
  -- corner i becomes corner 1
  obtain ⟨s, hs⟩ : ∃ s, (s + 1) % n = i := ⟨(i + n - 1) % n, by
    rw [Nat.mod_add_mod, show i + n - 1 + 1 = i + n by omega, Nat.add_mod_right, Nat.mod_eq_of_lt hi]⟩
  obtain ⟨j, hj⟩ : ∃ j, j < n ∧ (j + s) % n = k := ⟨(k + n - s % n) % n, Nat.mod_lt _ (by omega), by
    have : s % n < n := Nat.mod_lt _ (by omega)
    rw [Nat.mod_add_mod, ← Nat.add_mod_mod, show k + n - s % n + s % n = k + n by omega, Nat.add_mod_right, Nat.mod_eq_of_lt hk]⟩
  have hj1 : 1 < j := by
    rcases Nat.lt_or_ge 1 j with c | c
    · exact c
    · exfalso
      rcases (show j = 0 ∨ j = 1 by omega) with rfl | rfl
      · rw [Nat.zero_add] at hj
        apply h2
        rw [← hj.2, Nat.mod_add_mod, hs]
      · apply h1
        rw [← hj.2, Nat.add_comm, hs]
  have := (h.shift s).corner_off hj1 hj.1
  have e1 : p (1 + s) = p i := by rw [← h.mod (1 + s), Nat.add_comm 1 s, hs]
  have e2 : p (j + s) = p k := by rw [← h.mod (j + s), hj.2]
  have e3 : p (j + 1 + s) = p (k + 1) := by rw [← h.mod (j + 1 + s), ← h.mod (k + 1), ← hj.2, Nat.mod_add_mod]; congr 2; omega
  rw [e1, e2, e3] at this
  exact this
theorem wA_sc (S : Int) (a b c z : Int × Int) : wA (sc S a) (sc S b) (sc S c) (sc S z) = S * S * wA a b c z := turn_sc S c b z
theorem wB_sc (S : Int) (a b c z : Int × Int) : wB (sc S a) (sc S b) (sc S c) (sc S z) = S * S * wB a b c z := turn_sc S a c z
theorem wC_sc (S : Int) (a b c z : Int × Int) : wC (sc S a) (sc S b) (sc S c) (sc S z) = S * S * wC a b c z := turn_sc S b a z
theorem inT_sc {S : Int} (hS : 0 < S) {a b c z : Int × Int} : inT (sc S a) (sc S b) (sc S c) (sc S z) ↔ inT a b c z := by
  have hp := mpp hS hS
  have key : ∀ t : Int, 0 ≤ S * S * t ↔ 0 ≤ t := fun t => by
    have := sign_mul (k := S * S) (t := t) hp
    omega
  unfold inT
  rw [wA_sc, wB_sc, wC_sc, key, key, key]
/-- A point between l times x and m times y, seen (l + m) times as large. -/
def mix (l : Int) (x : Int × Int) (m : Int) (y : Int × Int) : Int × Int := (l * x.1 + m * y.1, l * x.2 + m * y.2)
theorem turn_mix (a c x y : Int × Int) (l m : Int) : turn (sc (l + m) a) (sc (l + m) c) (mix l x m y) = (l + m) * (l * turn a c x + m * turn a c y) := by unfold turn sc mix; grind
theorem on_mix {x y : Int × Int} {l m : Int} (hl : 0 ≤ l) (hm : 0 ≤ m) (hs : 0 < l + m) : onB (sc (l + m) x) (sc (l + m) y) (mix l x m y) = true :=
  on_weights hl hm rfl hs (by unfold mix sc; grind) (by unfold mix sc; grind)
theorem sc_left (S : Int) (x y : Int × Int) : onB (sc S x) (sc S y) (sc S x) = true := by
  refine onB_mk (by unfold turn; grind) ?_
  have : dot (sc S x) (sc S x) (sc S y) = 0 := by unfold dot; grind
  omega
theorem sc_right (S : Int) (x y : Int × Int) : onB (sc S x) (sc S y) (sc S y) = true := by
  rw [onB_swap]; exact sc_left S y x
/-- The farther end. -/
theorem far_end {k t f1 f2 F : Int} (hk : 0 ≤ k) (ht : 0 ≤ t) (_hs : 0 < k + t) (e : F = k * f1 + t * f2) : F ≤ (k + t) * f1 ∨ F ≤ (k + t) * f2 := by
  rcases Int.le_total f1 f2 with c | c
  · right
    have := Int.mul_le_mul_of_nonneg_left c hk
    rw [Int.add_mul]; omega
  · left
    have := Int.mul_le_mul_of_nonneg_left c ht
    rw [Int.add_mul]; omega
end Go.Proofs.Ythiemglckmociaa
/- Plain geometry of plots, eighth part: a line from the lowest corner. No program in sight. No conditions. -/
namespace Go.Proofs.Ythiemglckmociaa
theorem on_pt {a b z : Int × Int} (ho : onB a b z = true) : ∃ k t : Int, 0 ≤ k ∧ 0 ≤ t ∧ 0 < k + t ∧ (k + t) * z.1 = k * a.1 + t * b.1 ∧ (k + t) * z.2 = k * a.2 + t * b.2 := by
  obtain ⟨l, m, k, t, h1, h2, h3, h4, h5, h6, h7, h8⟩ := common (x := z) (y := z) (a := a) (b := b) (fun h => by rw [h.1] at ho; cases ho)
  exact ⟨k, t, h3, h4, by omega, by rw [← h5, Int.add_mul]; exact h7, by rw [← h5, Int.add_mul]; exact h8⟩
theorem col_between {v z y : Int × Int} (h0 : turn v z y = 0) (h1 : 0 < dot z y v) (h2 : 0 < dot v z y) : onB v z y = true := by
  refine onB_mk h0 ?_
  have e : dot y v z * (dot z y v + dot v z y) = turn v z y * turn v z y - dot z y v * dot v z y := by unfold dot turn; grind
  rw [h0] at e
  have m1 := mpp h1 h2
  rcases Int.lt_or_le 0 (dot y v z) with c | c
  · have := mpp c (show 0 < dot z y v + dot v z y by omega); omega
  · exact c
/-- Corner 0 of a plot, and its two neighbours, the first on the left of the way from the second to corner 0. -/
structure Wedge (r : Nat → Int × Int) (n : Nat) (a c : Int × Int) : Prop where
  simple : Simple r n
  ends : (a = r 1 ∧ c = r (n - 1)) ∨ (a = r (n - 1) ∧ c = r 1)
  pos : 0 < turn a c (r 0)
/-- Corner m is in the triangle, and none is farther from its base. -/
structure Wedge.Top (r : Nat → Int × Int) (n : Nat) (a c : Int × Int) (m : Nat) : Prop where
  lo : 2 ≤ m
  hi : m + 2 ≤ n
  inn : inT a (r 0) c (r m)
  max : ∀ i, 2 ≤ i → i + 2 ≤ n → inT a (r 0) c (r i) → wB a (r 0) c (r i) ≤ wB a (r 0) c (r m)
section
variable {r : Nat → Int × Int} {n m : Nat} {a c : Int × Int}
theorem Wedge.zero (h : Wedge r n a c) : wB a (r 0) c (r 1) = 0 ∧ wB a (r 0) c (r (n - 1)) = 0 := by
  have e1 : turn a c a = 0 := by unfold turn; grind
  have e2 : turn a c c = 0 := by unfold turn; grind
  unfold wB
  rcases h.ends with ⟨h1, h2⟩ | ⟨h1, h2⟩
  · rw [← h1, ← h2]; exact ⟨e1, e2⟩
  · rw [← h1, ← h2]; exact ⟨e2, e1⟩
/-- A corner in the triangle is on none of its two sides at corner 0. -/
theorem Wedge.strict (h : Wedge r n a c) (lo : 2 ≤ m) (hi : m + 2 ≤ n) (hz : inT a (r 0) c (r m)) : 0 < wA a (r 0) c (r m) ∧ 0 < wC a (r 0) c (r m) := by
  obtain ⟨z1, z2, z3⟩ := hz
  have hs := weights_sum a (r 0) c (r m)
  have hx := weights a (r 0) c (r m) 1 0 0
  have hy := weights a (r 0) c (r m) 0 1 0
  simp only [Int.one_mul, Int.zero_mul, Int.add_zero, Int.zero_add] at hx hy
  have o0 : onB (r 0) (r 1) (r m) = false := h.simple.off (i := m) (k := 0) (by omega) (by omega) (by omega) (by rw [Nat.zero_add, Nat.mod_eq_of_lt (by omega)]; omega)
  have o1 : onB (r (n - 1)) (r 0) (r m) = false := by
    have := h.simple.off (i := m) (k := n - 1) (by omega) (by omega) (by omega) (by rw [show n - 1 + 1 = n by omega, Nat.mod_self]; omega)
    rwa [show n - 1 + 1 = n by omega, h.simple.per1] at this
  have hA : onB a (r 0) (r m) = false := by
    rcases h.ends with ⟨h1, _⟩ | ⟨h1, _⟩
    · rw [h1, onB_swap]; exact o0
    · rw [h1]; exact o1
  have hC : onB (r 0) c (r m) = false := by
    rcases h.ends with ⟨_, h1⟩ | ⟨_, h1⟩
    · rw [h1, onB_swap]; exact o1
    · rw [h1]; exact o0
  constructor
  · rcases Int.lt_or_le 0 (wA a (r 0) c (r m)) with k | k
    · exact k
    · have k0 : wA a (r 0) c (r m) = 0 := by omega
      rw [k0] at hs hx hy
      have := on_weights (a := r 0) (b := c) (x := r m) z2 z3 (by omega) h.pos (by omega) (by omega)
      rw [this] at hC; cases hC
  · rcases Int.lt_or_le 0 (wC a (r 0) c (r m)) with k | k
    · exact k
    · have k0 : wC a (r 0) c (r m) = 0 := by omega
      rw [k0] at hs hx hy
      have := on_weights (a := a) (b := r 0) (x := r m) z1 z2 (by omega) h.pos (by omega) (by omega)
      rw [this] at hA; cases hA
theorem Wedge.free (h : Wedge r n a c) (t : Wedge.Top r n a c m) : ∀ k, k < n → k ≠ 0 → k + 1 ≠ m → k ≠ m → k + 1 ≠ n → apart (r 0) (r m) (r k) (r (k + 1)) := by
  have lo := t.lo; have hi := t.hi
  intro k hk k0 k1 k2 k3
  refine Classical.byContradiction fun hna => ?_
  obtain ⟨l, mm, kk, tt, hl, hmm, hkk, htt, hs, hS, e1, e2⟩ := common hna
  have eX : mix l (r 0) mm (r m) = mix kk (r k) tt (r (k + 1)) := Prod.ext e1 e2
  have hzon : onB (r k) (r (k + 1)) (r m) = false := h.simple.off (by omega) hk k2 (by rw [Nat.mod_eq_of_lt (by omega)]; exact k1)
  have hXon : onB (sc (l + mm) (r k)) (sc (l + mm) (r (k + 1))) (mix l (r 0) mm (r m)) = true := by rw [eX, hs]; exact on_mix hkk htt (by omega)
  have hl0 : l ≠ 0 := fun e => by
    subst e
    rw [Int.zero_add] at hXon hS
    have : mix 0 (r 0) mm (r m) = sc mm (r m) := by unfold mix sc; simp
    rw [this, onB_sc hS] at hXon
    rw [hXon] at hzon; cases hzon
  have hlp : 0 < l := by omega
  have hDv : turn a c (r 0) = wB a (r 0) c (r 0) := rfl
  obtain ⟨zA, zB, zC⟩ := t.inn
  obtain ⟨sA, sC⟩ := h.strict lo hi t.inn
  have hsum := weights_sum a (r 0) c (r m)
  have hpos := h.pos
  -- the height of the common point
  have t1 := turn_mix a c (r 0) (r m) l mm
  have t2 := turn_mix a c (r k) (r (k + 1)) kk tt
  rw [eX, hs] at t1
  have hF : l * turn a c (r 0) + mm * turn a c (r m) = kk * turn a c (r k) + tt * turn a c (r (k + 1)) := by
    have := t1.symm.trans t2
    exact Int.eq_of_mul_eq_mul_left (by omega) this
  have hFp : 0 < l * turn a c (r 0) + mm * turn a c (r m) := by
    have := mpp hlp hpos
    have := mpp0 hmm zB
    unfold wB at this
    omega
  obtain ⟨F, hFe⟩ : ∃ F, l * turn a c (r 0) + mm * turn a c (r m) = F := ⟨_, rfl⟩
  rw [hFe] at hF hFp
  have main : ∀ i, (i = k ∨ i = k + 1) → F ≤ (kk + tt) * turn a c (r i) → False := fun i hi' hfi => by
    have hSp : 0 < kk + tt := by omega
    have hfp : 0 < turn a c (r i) := by
      rcases Int.lt_or_le 0 (turn a c (r i)) with x | x
      · exact x
      · have := mpn0 (Int.le_of_lt hSp) x; omega
    obtain ⟨w1, w2⟩ := h.zero
    unfold wB at w1 w2
    have i1 : i ≠ 1 := fun e => by rw [e, w1] at hfp; omega
    have i2 : i ≠ n - 1 := fun e => by rw [e, w2] at hfp; omega
    by_cases hin : inT a (r 0) c (r i)
    · have hmx := t.max i (by omega) (by omega) hin
      unfold wB at hmx hsum
      have q1 := Int.mul_le_mul_of_nonneg_left hmx (Int.le_of_lt hSp)
      have q2 := mpp hlp (show 0 < turn a c (r 0) - turn a c (r m) by omega)
      rw [Int.mul_sub] at q2
      rw [← hs] at q1
      rw [← hs] at hfi
      have q4 : (l + mm) * turn a c (r m) = l * turn a c (r m) + mm * turn a c (r m) := Int.add_mul _ _ _
      omega
    · -- the way from the common point to that end leaves the triangle
      obtain ⟨S, hSe⟩ : ∃ S, kk + tt = S := ⟨_, rfl⟩
      have hs2 : l + mm = S := by omega
      rw [hSe] at hSp
      rw [hs2] at hXon
      have tB := turn_mix a c (r 0) (r m) l mm
      have tA := turn_mix c (r 0) (r 0) (r m) l mm
      have tC := turn_mix (r 0) a (r 0) (r m) l mm
      rw [hs2] at tA tB tC
      rw [show turn c (r 0) (r 0) = 0 by unfold turn; grind, Int.mul_zero, Int.zero_add] at tA
      rw [show turn (r 0) a (r 0) = 0 by unfold turn; grind, Int.mul_zero, Int.zero_add] at tC
      rw [hFe] at tB
      have hXb : 0 < turn (sc S a) (sc S c) (mix l (r 0) mm (r m)) := by rw [tB]; exact mpp hSp hFp
      have hSi : 0 < turn (sc S a) (sc S c) (sc S (r i)) := by rw [turn_sc]; exact mpp (mpp hSp hSp) hfp
      have z1 : turn (sc S a) (sc S c) (sc S (r 1)) = 0 := by rw [turn_sc, w1, Int.mul_zero]
      have z2 : turn (sc S a) (sc S c) (sc S (r (n - 1))) = 0 := by rw [turn_sc, w2, Int.mul_zero]
      have hss := h.simple.scale hSp
      have hYon : onB (sc S (r k)) (sc S (r (k + 1))) (sc S (r i)) = true := by
        rcases hi' with rfl | rfl
        · exact sc_left _ _ _
        · exact sc_right _ _ _
      have A0 : apart (mix l (r 0) mm (r m)) (sc S (r i)) (sc S (r 0)) (sc S (r 1)) := by
        refine hss.side_side (k := k) (j := 0) hk (by omega) (by omega) hXon hYon ?_ ?_
        · intro e; rw [Nat.mod_eq_of_lt (by omega)] at e; omega
        · intro e
          rw [Nat.zero_add, Nat.mod_eq_of_lt (by omega)] at e
          subst e
          exact ⟨fun e => by rw [e, z1] at hXb; omega, fun e => by rw [e, z1] at hSi; omega⟩
      have A1 : apart (mix l (r 0) mm (r m)) (sc S (r i)) (sc S (r (n - 1))) (sc S (r 0)) := by
        have := hss.side_side (k := k) (j := n - 1) hk (by omega) (by omega) hXon hYon (by
          intro e
          rw [Nat.mod_eq_of_lt (by omega)] at e
          exact ⟨fun e => by rw [e, z2] at hXb; omega, fun e => by rw [e, z2] at hSi; omega⟩) (by
          intro e
          rw [show n - 1 + 1 = n by omega, Nat.mod_self] at e
          omega)
        rwa [show n - 1 + 1 = n by omega, h.simple.per1] at this
      have hmz := mpp0 hmm zA
      have hmz2 := mpp0 hmm zC
      unfold wA at hmz
      unfold wC at hmz2
      refine leave (a := sc S a) (b := sc S (r 0)) (c := sc S c) (x := mix l (r 0) mm (r m)) (q := sc S (r i)) ?_ ⟨?_, Int.le_of_lt hXb, ?_⟩ (Int.le_of_lt hSi) ?_ ?_ ?_
      · rw [turn_sc]; exact mpp (mpp hSp hSp) hpos
      · show 0 ≤ turn (sc S c) (sc S (r 0)) _
        rw [tA]; exact mpp0 (Int.le_of_lt hSp) hmz
      · show 0 ≤ turn (sc S (r 0)) (sc S a) _
        rw [tC]; exact mpp0 (Int.le_of_lt hSp) hmz2
      · rw [inT_sc hSp]; exact hin
      · rcases h.ends with ⟨g1, _⟩ | ⟨g1, _⟩
        · rw [g1]; exact apart_swap A0
        · rw [g1]; exact A1
      · rcases h.ends with ⟨_, g1⟩ | ⟨_, g1⟩
        · rw [g1]; exact apart_swap A1
        · rw [g1]; exact A0
  rcases far_end hkk htt (by omega) hF with x | x
  · exact main k (.inl rfl) x
  · exact main (k + 1) (.inr rfl) x
/-- No corner lies on the line between corner 0 and corner m. -/
theorem Wedge.between (h : Wedge r n a c) (t : Wedge.Top r n a c m) {i : Nat} (hi1 : 1 ≤ i) (hi2 : i < n) (him : i ≠ m) : onB (r 0) (r m) (r i) = false := by
  have lo := t.lo; have hi := t.hi
  cases ho : onB (r 0) (r m) (r i)
  · rfl
  · exfalso
    obtain ⟨k, s, hk, hs, hks, e1, e2⟩ := on_pt ho
    obtain ⟨zA, zB, zC⟩ := t.inn
    obtain ⟨sA, sC⟩ := h.strict lo hi t.inn
    have hsum := weights_sum a (r 0) c (r m)
    have hk0 : k ≠ 0 := fun e => by
      subst e
      rw [Int.zero_add] at e1 e2 hks
      rw [Int.zero_mul, Int.zero_add] at e1 e2
      have d1 := Int.eq_of_mul_eq_mul_left (by omega) e1
      have d2 := Int.eq_of_mul_eq_mul_left (by omega) e2
      exact him (h.simple.inj i m hi2 (by omega) (Prod.ext d1 d2))
    have fB : (k + s) * turn a c (r i) = k * turn a c (r 0) + s * turn a c (r m) := by unfold turn; grind
    have fA : (k + s) * turn c (r 0) (r i) = s * turn c (r 0) (r m) := by unfold turn; grind
    have fC : (k + s) * turn (r 0) a (r i) = s * turn (r 0) a (r m) := by unfold turn; grind
    unfold wA wB wC at *
    have p1 := mpp (show 0 < k by omega) (show 0 < turn a c (r 0) - turn a c (r m) by omega)
    rw [Int.mul_sub] at p1
    have hlt : turn a c (r m) < turn a c (r i) := by
      rcases Int.lt_or_le (turn a c (r m)) (turn a c (r i)) with x | x
      · exact x
      · have q := Int.mul_le_mul_of_nonneg_left x (Int.le_of_lt hks)
        rw [fB, Int.add_mul] at q
        omega
    obtain ⟨w1, w2⟩ := h.zero
    unfold wB at w1 w2
    have i1 : i ≠ 1 := fun e => by rw [e, w1] at hlt; omega
    have i2 : i ≠ n - 1 := fun e => by rw [e, w2] at hlt; omega
    have nn : ∀ z y : Int, (k + s) * z = s * y → 0 ≤ y → 0 ≤ z := fun z y e hy => by
      have := mpp0 hs hy
      rcases Int.lt_or_le z 0 with x | x
      · have := mpn hks x; omega
      · exact x
    have := t.max i (by omega) (by omega) ⟨nn _ _ fA zA, by show 0 ≤ turn a c (r i); omega, nn _ _ fC zC⟩
    unfold wB at this
    omega
theorem Wedge.diag (h : Wedge r n a c) (t : Wedge.Top r n a c m) : Diag r n m := by
  have lo := t.lo; have hi := t.hi
  obtain ⟨sA, sC⟩ := h.strict lo hi t.inn
  unfold wA at sA
  unfold wC at sC
  have n1 : turn (r m) (r 0) (r 1) ≠ 0 := by
    have e := turn_rot (r m) (r 0) (r 1)
    rcases h.ends with ⟨g1, _⟩ | ⟨_, g1⟩
    · rw [g1] at sC; omega
    · rw [g1, turn_swap] at sA; omega
  have n2 : turn (r (n - 1)) (r 0) (r m) ≠ 0 := by
    rcases h.ends with ⟨_, g1⟩ | ⟨g1, _⟩
    · rw [g1] at sA; omega
    · rw [g1, turn_swap] at sC; omega
  have nb : ∀ i, 1 ≤ i → i < n → i ≠ m → (onB (r i) (r m) (r 0) = false) → turn (r 0) (r m) (r i) = 0 → 0 < dot (r m) (r i) (r 0) → False := fun i h1 h2 h3 hoff e0 ed => by
    rcases Int.lt_or_le 0 (dot (r 0) (r m) (r i)) with x | x
    · have := col_between e0 ed x
      rw [h.between t h1 h2 h3] at this; cases this
    · have : onB (r i) (r m) (r 0) = true := onB_mk (by unfold turn at e0 ⊢; grind) (by unfold dot at x ⊢; grind)
      rw [this] at hoff; cases hoff
  refine ⟨lo, hi, fun e => n1 e.1, ?_, ?_, fun e => n2 e.1, h.free t⟩
  · rintro ⟨e0, ed⟩
    refine nb (m - 1) (by omega) (by omega) (by omega) ?_ (by unfold turn at e0 ⊢; grind) ed
    have := h.simple.off (i := 0) (k := m - 1) (by omega) (by omega) (by omega) (by rw [show m - 1 + 1 = m by omega, Nat.mod_eq_of_lt (by omega)]; omega)
    rwa [show m - 1 + 1 = m by omega] at this
  · rintro ⟨e0, ed⟩
    refine nb (m + 1) (by omega) (by omega) (by omega) ?_ e0 (by unfold dot at ed ⊢; grind)
    rw [onB_swap]
    exact h.simple.off (i := 0) (k := m) (by omega) (by omega) (by omega) (by rw [Nat.mod_eq_of_lt (by omega)]; omega)
end
end Go.Proofs.Ythiemglckmociaa
/- Plain geometry of plots, ninth part: some line splits each plot of four corners or more. No program in sight. No conditions. -/
namespace Go.Proofs.Ythiemglckmociaa
theorem lam_shift {p : Nat → Int × Int} {n : Nat} (h : Simple p n) (s : Nat) : lam (fun k => p (k + s)) n 0 = lam p n 0 := by
  have hw := (h.scale (show (0 : Int) < 2 by decide)).wsum_shift s (near 2 (p (s + 1)) (p s))
  have : lam (fun k => p (k + s)) n 0 = lam p n s := by
    show wsum (fun i => sc 2 (p (i + s))) n (near 2 (p (0 + 1 + s)) (p (0 + s))) + up (p (0 + s)) (p (0 + 1 + s)) = wsum (fun i => sc 2 (p i)) n (near 2 (p (s + 1)) (p s)) + up (p s) (p (s + 1))
    rw [show 0 + 1 + s = s + 1 by omega, Nat.zero_add, ← hw]
  rw [this, h.lam_all]
/-- Corner 0 is the lowest, the rightmost of several. -/
def Low (r : Nat → Int × Int) (n : Nat) : Prop := ∀ i, i < n → i ≠ 0 → (r 0).2 < (r i).2 ∨ ((r 0).2 = (r i).2 ∧ (r i).1 < (r 0).1)
theorem Low.at {r : Nat → Int × Int} {n : Nat} (h : Simple r n) (hl : Low r n) {i : Nat} (hi : i % n ≠ 0) : (r 0).2 < (r i).2 ∨ ((r 0).2 = (r i).2 ∧ (r i).1 < (r 0).1) := by
  have h3 := h.three
  rw [← h.mod i]
  exact hl _ (Nat.mod_lt _ (by omega)) hi
theorem same_sign {x y s t : Int} (hx : x = 0 ∨ x = 1) (hy : y = 0 ∨ y = 1) (h1 : 0 < (2 * x - 1) * s) (h2 : 0 < (2 * y - 1) * t) (h : (0 < s ∧ 0 < t) ∨ (s < 0 ∧ t < 0)) : x = y := by
  rcases hx with rfl | rfl <;> rcases hy with rfl | rfl <;> omega
section
variable {r : Nat → Int × Int} {n m : Nat} {a c : Int × Int}
/-- A line from the lowest corner to the corner that is farthest from the base lies inside. -/
theorem Wedge.inside (h : Wedge r n a c) (hl : Low r n) (t : Wedge.Top r n a c m) : wsum (fun i => sc 2 (r i)) n (mid2 (r 0) (r m)) ≠ 0 := by
  have lo := t.lo; have hi := t.hi
  have hr := h.simple
  have d := h.diag t
  have h1 := d.part hr
  have h2 := (d.swap hr).part (hr.shift m)
  have hsum := d.lam_sum hr
  obtain ⟨sA, sC⟩ := h.strict lo hi t.inn
  unfold wA at sA
  unfold wC at sC
  -- the first part
  have L1 : Lowest (fun k => Go.Proofs.Ythiemglckmociaa.part r m (k + m)) (m + 1) := by
    intro i hi1 hi2
    have e1 : Go.Proofs.Ythiemglckmociaa.part r m (1 + m) = r 0 := by rw [Nat.add_comm]; exact part_end r m
    simp only [e1]
    by_cases c0 : i = 0
    · subst c0
      rw [Nat.zero_add, part_lt (Nat.le_refl _)]
      exact hl m (by omega) (by omega)
    · have : Go.Proofs.Ythiemglckmociaa.part r m (i + m) = r (i - 1) := by
        unfold Go.Proofs.Ythiemglckmociaa.part
        rw [show i + m = (i - 1) + (m + 1) by omega, Nat.add_mod_right, Nat.mod_eq_of_lt (by omega)]
      rw [this]
      exact hl (i - 1) (by omega) (by omega)
  have x1 := (h1.shift m).ext L1
  rw [lam_shift h1] at x1
  simp only [Nat.zero_add] at x1
  rw [part_lt (Nat.le_refl _), show 1 + m = m + 1 by omega, part_end, show 2 + m = m + 2 by omega, part_end2 (by omega)] at x1
  -- the second part
  have q : ∀ j, j ≤ n - m → Go.Proofs.Ythiemglckmociaa.part (fun k => r (k + m)) (n - m) j = r (j + m) := fun j hj => by rw [part_lt hj]
  have e0 : Go.Proofs.Ythiemglckmociaa.part (fun k => r (k + m)) (n - m) (n - m) = r 0 := by rw [q _ (Nat.le_refl _), show n - m + m = n by omega, hr.per1]
  have L2 : Lowest (fun k => Go.Proofs.Ythiemglckmociaa.part (fun k => r (k + m)) (n - m) (k + (n - m - 1))) (n - m + 1) := by
    intro i hi1 hi2
    have e1 : Go.Proofs.Ythiemglckmociaa.part (fun k => r (k + m)) (n - m) (1 + (n - m - 1)) = r 0 := by rw [show 1 + (n - m - 1) = n - m by omega]; exact e0
    simp only [e1]
    by_cases c0 : i = 0
    · subst c0
      rw [q _ (by omega)]
      exact hl.at hr (by rw [Nat.mod_eq_of_lt (by omega)]; omega)
    · have : Go.Proofs.Ythiemglckmociaa.part (fun k => r (k + m)) (n - m) (i + (n - m - 1)) = r (i - 2 + m) := by
        have : Go.Proofs.Ythiemglckmociaa.part (fun k => r (k + m)) (n - m) (i + (n - m - 1)) = Go.Proofs.Ythiemglckmociaa.part (fun k => r (k + m)) (n - m) (i - 2) := by
          unfold Go.Proofs.Ythiemglckmociaa.part
          rw [show i + (n - m - 1) = (i - 2) + (n - m + 1) by omega, Nat.add_mod_right]
        rw [this, q _ (by omega)]
      rw [this]
      exact hl.at hr (by rw [Nat.mod_eq_of_lt (by omega)]; omega)
  have x2 := (h2.shift (n - m - 1)).ext L2
  rw [lam_shift h2] at x2
  simp only [Nat.zero_add] at x2
  have e2 : Go.Proofs.Ythiemglckmociaa.part (fun k => r (k + m)) (n - m) (2 + (n - m - 1)) = r m := by
    rw [show 2 + (n - m - 1) = n - m + 1 by omega, part_end, Nat.zero_add]
  rw [q _ (by omega), show n - m - 1 + m = n - 1 by omega, show 1 + (n - m - 1) = n - m by omega, e0, e2] at x2
  have hrot := turn_rot (r m) (r 0) (r 1)
  have hlam : lam (Go.Proofs.Ythiemglckmociaa.part r m) (m + 1) 0 = lam (Go.Proofs.Ythiemglckmociaa.part (fun k => r (k + m)) (n - m)) (n - m + 1) 0 := by
    refine same_sign h1.lam01 h2.lam01 x1 x2 ?_
    rcases h.ends with ⟨g1, g2⟩ | ⟨g1, g2⟩
    · rw [g1] at sC; rw [g2] at sA
      exact .inl ⟨by omega, sA⟩
    · rw [g1, turn_swap] at sC; rw [g2, turn_swap] at sA
      exact .inr ⟨by omega, by omega⟩
  have := h1.lam01
  omega
/-- If no other corner is in the triangle at the lowest corner, its base splits the plot. -/
theorem Wedge.base (h : Wedge r n a c) (h4 : 4 ≤ n) (hno : ∀ i, 2 ≤ i → i + 2 ≤ n → ¬ inT a (r 0) c (r i)) : Diag (fun k => r (k + (n - 1))) n 2 := by
  have hr := h.simple
  have q : ∀ k, 1 ≤ k → r (k + (n - 1)) = r (k - 1) := fun k hk => by
    rw [show k + (n - 1) = k - 1 + n by omega, hr.per]
  have q0 : r (0 + (n - 1)) = r (n - 1) := by rw [Nat.zero_add]
  have q1 := q 1 (by omega)
  have q2 := q 2 (by omega)
  have q3 := q 3 (by omega)
  have qn := q (n - 1) (by omega)
  have hpos := h.pos
  have ne0 : turn (r 1) (r (n - 1)) (r 0) ≠ 0 := by
    rcases h.ends with ⟨g1, g2⟩ | ⟨g1, g2⟩
    · rw [g1, g2] at hpos; omega
    · rw [g1, g2, turn_swap] at hpos; omega
  have seg : ∀ i, 2 ≤ i → i + 2 ≤ n → onB (r (n - 1)) (r 1) (r i) = false := fun i hi1 hi2 => by
    cases ho : onB (r (n - 1)) (r 1) (r i)
    · rfl
    · exfalso
      obtain ⟨k, s, hk, hs, hks, e1, e2⟩ := on_pt ho
      have nn : ∀ z y : Int, (k + s) * z = y → 0 ≤ y → 0 ≤ z := fun z y e hy => by
        rcases Int.lt_or_le z 0 with x | x
        · have := mpn hks x; omega
        · exact x
      refine hno i hi1 hi2 ?_
      rcases h.ends with ⟨g1, g2⟩ | ⟨g1, g2⟩
      · rw [g1, g2] at hpos ⊢
        have fB : (k + s) * turn (r 1) (r (n - 1)) (r i) = 0 := by unfold turn; grind
        have fA : (k + s) * turn (r (n - 1)) (r 0) (r i) = s * turn (r 1) (r (n - 1)) (r 0) := by unfold turn; grind
        have fC : (k + s) * turn (r 0) (r 1) (r i) = k * turn (r 1) (r (n - 1)) (r 0) := by unfold turn; grind
        exact ⟨nn _ _ fA (mpp0 hs (by omega)), nn _ _ fB (Int.le_refl _), nn _ _ fC (mpp0 hk (by omega))⟩
      · rw [g1, g2] at hpos ⊢
        have fB : (k + s) * turn (r (n - 1)) (r 1) (r i) = 0 := by unfold turn; grind
        have fA : (k + s) * turn (r 1) (r 0) (r i) = k * turn (r (n - 1)) (r 1) (r 0) := by unfold turn; grind
        have fC : (k + s) * turn (r 0) (r (n - 1)) (r i) = s * turn (r (n - 1)) (r 1) (r 0) := by unfold turn; grind
        exact ⟨nn _ _ fA (mpp0 hk (by omega)), nn _ _ fB (Int.le_refl _), nn _ _ fC (mpp0 hs (by omega))⟩
  refine ⟨Nat.le_refl _, by omega, ?_, ?_, ?_, ?_, ?_⟩
  · rw [q0, q1, q2]; exact fun e => ne0 e.1
  · rw [show 2 - 1 = 1 from rfl, q0, q1, q2]; exact fun e => ne0 (by have := e.1; unfold turn at this ⊢; grind)
  · rw [q0, q2, show 2 + 1 = 3 from rfl, q3]
    rintro ⟨e0, ed⟩
    rcases Int.lt_or_le 0 (dot (r (n - 1)) (r (2 - 1)) (r (3 - 1))) with x | x
    · have := col_between e0 (by unfold dot at ed ⊢; grind) x
      rw [seg 2 (by omega) (by omega)] at this; cases this
    · have h1 : onB (r 1) (r 2) (r (n - 1)) = true := onB_mk (by unfold turn at e0 ⊢; grind) (by unfold dot at x ⊢; grind)
      have h2 := hr.off (i := n - 1) (k := 1) (by omega) (by omega) (by omega) (by rw [Nat.mod_eq_of_lt (by omega)]; omega)
      rw [h2] at h1; cases h1
  · rw [q0, q2, qn]
    rintro ⟨e0, ed⟩
    rcases Int.lt_or_le 0 (dot (r (2 - 1)) (r (n - 1)) (r (n - 1 - 1))) with x | x
    · have := col_between (v := r (2 - 1)) (z := r (n - 1)) (y := r (n - 1 - 1)) (by unfold turn at e0 ⊢; grind) (by unfold dot at ed ⊢; grind) x
      rw [onB_swap, seg (n - 1 - 1) (by omega) (by omega)] at this; cases this
    · have h1 : onB (r (n - 2)) (r (n - 1)) (r 1) = true := onB_mk (by rw [show n - 2 = n - 1 - 1 by omega]; unfold turn at e0 ⊢; grind) (by rw [show n - 2 = n - 1 - 1 by omega]; unfold dot at x ⊢; grind)
      have h2 := hr.off (i := 1) (k := n - 2) (by omega) (by omega) (by omega) (by rw [show n - 2 + 1 = n - 1 by omega, Nat.mod_eq_of_lt (by omega)]; omega)
      rw [show n - 2 + 1 = n - 1 by omega] at h2
      rw [h2] at h1; cases h1
  · intro k hk k0 k1 k2 k3
    rw [q0, q2, q k (by omega), q (k + 1) (by omega), show 2 - 1 = 1 from rfl, show k + 1 - 1 = k from rfl]
    refine Classical.byContradiction fun hna => ?_
    obtain ⟨l, mm, kk, tt, hl, hmm, hkk, htt, hs, hS, e1, e2⟩ := common hna
    have eX : mix l (r (n - 1)) mm (r 1) = mix kk (r (k - 1)) tt (r k) := Prod.ext e1 e2
    obtain ⟨S, hSe⟩ : ∃ S, kk + tt = S := ⟨_, rfl⟩
    have hs2 : l + mm = S := by omega
    have hSp : 0 < S := by omega
    have hk1 : k - 1 + 1 = k := by omega
    have hXon : onB (sc S (r (k - 1))) (sc S (r (k - 1 + 1))) (mix l (r (n - 1)) mm (r 1)) = true := by rw [eX, hk1, ← hSe]; exact on_mix hkk htt (by omega)
    have tB := turn_mix a c (r (n - 1)) (r 1) l mm
    have tB2 := turn_mix a c (r (k - 1)) (r k) kk tt
    have tA := turn_mix c (r 0) (r (n - 1)) (r 1) l mm
    have tC := turn_mix (r 0) a (r (n - 1)) (r 1) l mm
    rw [← eX, hSe] at tB2
    rw [hs2] at tA tB tC
    obtain ⟨w1, w2⟩ := h.zero
    unfold wB at w1 w2
    rw [w1, w2, Int.mul_zero, Int.mul_zero, Int.add_zero, Int.mul_zero] at tB
    have hF : 0 = kk * turn a c (r (k - 1)) + tt * turn a c (r k) := by
      have := tB.symm.trans tB2
      rcases Int.mul_eq_zero.1 this.symm with x | x
      · omega
      · exact x.symm
    have hAC : 0 ≤ turn (sc S c) (sc S (r 0)) (mix l (r (n - 1)) mm (r 1)) ∧ 0 ≤ turn (sc S (r 0)) (sc S a) (mix l (r (n - 1)) mm (r 1)) := by
      rw [tA, tC]
      have z1 : turn (r 1) (r 0) (r 1) = 0 := by unfold turn; grind
      have z2 : turn (r (n - 1)) (r 0) (r (n - 1)) = 0 := by unfold turn; grind
      have z3 : turn (r 0) (r 1) (r 1) = 0 := by unfold turn; grind
      have z4 : turn (r 0) (r (n - 1)) (r (n - 1)) = 0 := by unfold turn; grind
      rcases h.ends with ⟨g1, g2⟩ | ⟨g1, g2⟩
      · rw [g1, g2] at hpos ⊢
        have f1 : turn (r (n - 1)) (r 0) (r 1) = turn (r 1) (r (n - 1)) (r 0) := by unfold turn; grind
        have f2 : turn (r 0) (r 1) (r (n - 1)) = turn (r 1) (r (n - 1)) (r 0) := by unfold turn; grind
        rw [z2, z3, f1, f2, Int.mul_zero, Int.mul_zero, Int.zero_add, Int.add_zero]
        exact ⟨mpp0 (by omega) (mpp0 hmm (by omega)), mpp0 (by omega) (mpp0 hl (by omega))⟩
      · rw [g1, g2] at hpos ⊢
        have f1 : turn (r 1) (r 0) (r (n - 1)) = turn (r (n - 1)) (r 1) (r 0) := by unfold turn; grind
        have f2 : turn (r 0) (r (n - 1)) (r 1) = turn (r (n - 1)) (r 1) (r 0) := by unfold turn; grind
        rw [z1, z4, f1, f2, Int.mul_zero, Int.mul_zero, Int.zero_add, Int.add_zero]
        exact ⟨mpp0 (by omega) (mpp0 hl (by omega)), mpp0 (by omega) (mpp0 hmm (by omega))⟩
    have main : ∀ i, (i = k - 1 ∨ i = k) → 0 ≤ (kk + tt) * turn a c (r i) → False := fun i hi' hfi => by
      have hfp : 0 ≤ turn a c (r i) := by
        rcases Int.lt_or_le (turn a c (r i)) 0 with x | x
        · rw [hSe] at hfi; have := mpn hSp x; omega
        · exact x
      have hout := hno i (by omega) (by omega)
      have hss := hr.scale hSp
      have hYon : onB (sc S (r (k - 1))) (sc S (r (k - 1 + 1))) (sc S (r i)) = true := by
        rw [hk1]
        rcases hi' with rfl | rfl
        · exact sc_left _ _ _
        · exact sc_right _ _ _
      have A0 : apart (mix l (r (n - 1)) mm (r 1)) (sc S (r i)) (sc S (r 0)) (sc S (r 1)) := by
        refine hss.side_side (k := k - 1) (j := 0) (by omega) (by omega) (by omega) hXon hYon ?_ ?_
        · intro e; rw [Nat.mod_eq_of_lt (by omega)] at e; omega
        · intro e; rw [Nat.zero_add, Nat.mod_eq_of_lt (by omega)] at e; omega
      have A1 : apart (mix l (r (n - 1)) mm (r 1)) (sc S (r i)) (sc S (r (n - 1))) (sc S (r 0)) := by
        have := hss.side_side (k := k - 1) (j := n - 1) (by omega) (by omega) (by omega) hXon hYon (by
          intro e; rw [Nat.mod_eq_of_lt (by omega)] at e; omega) (by
          intro e; rw [show n - 1 + 1 = n by omega, Nat.mod_self] at e; omega)
        rwa [show n - 1 + 1 = n by omega, hr.per1] at this
      refine leave (a := sc S a) (b := sc S (r 0)) (c := sc S c) (x := mix l (r (n - 1)) mm (r 1)) (q := sc S (r i)) ?_ ⟨hAC.1, ?_, hAC.2⟩ ?_ ?_ ?_ ?_
      · rw [turn_sc]; exact mpp (mpp hSp hSp) hpos
      · show 0 ≤ turn (sc S a) (sc S c) _
        rw [tB]; exact Int.le_refl _
      · show 0 ≤ turn (sc S a) (sc S c) _
        rw [turn_sc]; exact mpp0 (mpp0 (by omega) (by omega)) hfp
      · rw [inT_sc hSp]; exact hout
      · rcases h.ends with ⟨g1, _⟩ | ⟨g1, _⟩
        · rw [g1]; exact apart_swap A0
        · rw [g1]; exact A1
      · rcases h.ends with ⟨_, g1⟩ | ⟨_, g1⟩
        · rw [g1]; exact apart_swap A1
        · rw [g1]; exact A0
    rcases far_end hkk htt (by omega) hF with x | x
    · exact main _ (.inl rfl) x
    · exact main _ (.inr rfl) x
end
end Go.Proofs.Ythiemglckmociaa
/- Plain geometry of plots, tenth part: some line inside splits each plot of four corners or more. No program in sight. No conditions. -/
namespace Go.Proofs.Ythiemglckmociaa
/-- A point on the right of the way from s to t, of which all corners are on the left: what is near it is gone round by nothing. -/
theorem near_out {p : Nat → Int × Int} {n : Nat} (hper : p n = p 0) {s t y z : Int × Int} (hy : turn s t y < 0) (h : ∀ i, i ≤ n → 0 ≤ turn s t (p i)) :
    ∃ k0 : Int, ∀ k, k0 ≤ k → 0 < k → wsum (fun i => sc k (p i)) n (near k y z) = 0 := by
  refine ⟨(turn s t z - turn s t y).natAbs + 1, fun k hk hk0 => ?_⟩
  refine wsum_sep (u := -(t.2 - s.2)) (v := t.1 - s.1) (g := k * ((t.2 - s.2) * s.1 - (t.1 - s.1) * s.2)) ?_ ?_ ?_
  · show sc k (p n) = sc k (p 0); rw [hper]
  · have e : -(t.2 - s.2) * (near k y z).1 + (t.1 - s.1) * (near k y z).2 + k * ((t.2 - s.2) * s.1 - (t.1 - s.1) * s.2) = k * turn s t y + (turn s t z - turn s t y) := by unfold near turn; grind
    rw [e]
    have := Int.mul_le_mul_of_nonneg_left (show turn s t y ≤ -1 by omega) (Int.le_of_lt hk0)
    omega
  · intro i hi
    have e : -(t.2 - s.2) * (sc k (p i)).1 + (t.1 - s.1) * (sc k (p i)).2 + k * ((t.2 - s.2) * s.1 - (t.1 - s.1) * s.2) = k * turn s t (p i) := by unfold sc turn; grind
    rw [e]
    exact mpp0 (Int.le_of_lt hk0) (h i hi)
section
variable {r : Nat → Int × Int} {n : Nat} {a c : Int × Int}
theorem Wedge.base_inside (h : Wedge r n a c) (hl : Low r n) (h4 : 4 ≤ n) (hno : ∀ i, 2 ≤ i → i + 2 ≤ n → ¬ inT a (r 0) c (r i)) :
    wsum (fun i => sc 2 (r (i + (n - 1)))) n (mid2 (r (0 + (n - 1))) (r (2 + (n - 1)))) ≠ 0 := by
  have hr := h.simple
  have d := h.base h4 hno
  have hq := hr.shift (n - 1)
  have q : ∀ k, 1 ≤ k → r (k + (n - 1)) = r (k - 1) := fun k hk => by
    rw [show k + (n - 1) = k - 1 + n by omega, hr.per]
  have q0 : r (0 + (n - 1)) = r (n - 1) := by rw [Nat.zero_add]
  have hpos := h.pos
  have h1 := d.part hq
  have hsum := d.lam_sum hq
  have hd := (d.swap hq).part (hq.shift 2)
  -- the plot's direction is that of its lowest corner
  have X1 : Lowest (fun k => r (k + (n - 1))) n := by
    intro i hi1 hi2
    simp only [q 1 (by omega)]
    by_cases c0 : i = 0
    · subst c0; rw [q0]; exact hl (n - 1) (by omega) (by omega)
    · rw [q i (by omega)]; exact hl (i - 1) (by omega) (by omega)
  have x1 := hq.ext X1
  -- so is the triangle's
  have pl : ∀ i, i ≤ 2 → Go.Proofs.Ythiemglckmociaa.part (fun k => r (k + (n - 1))) 2 i = r (i + (n - 1)) := fun i hi => by rw [part_lt hi]
  have X2 : Lowest (Go.Proofs.Ythiemglckmociaa.part (fun k => r (k + (n - 1))) 2) (2 + 1) := by
    intro i hi1 hi2
    rw [pl 1 (by omega), pl i (by omega)]
    exact X1 i (by omega) hi2
  have x2 := h1.ext X2
  rw [pl 0 (by omega), pl 1 (by omega), pl 2 (by omega)] at x2
  -- the rest goes round as the whole does
  have hper3 : Go.Proofs.Ythiemglckmociaa.part (fun k => r (k + (n - 1))) 2 (2 + 1) = Go.Proofs.Ythiemglckmociaa.part (fun k => r (k + (n - 1))) 2 0 := h1.per1
  have hout : ∃ k0 : Int, ∀ k, k0 ≤ k → 0 < k → wsum (fun i => sc k (Go.Proofs.Ythiemglckmociaa.part (fun k => r (k + (n - 1))) 2 i)) (2 + 1) (near k (r 2) (r 1)) = 0 := by
    have corners : ∀ (s t : Int × Int), 0 ≤ turn s t (r (n - 1)) → 0 ≤ turn s t (r 0) → 0 ≤ turn s t (r 1) → ∀ i, i ≤ 2 + 1 → 0 ≤ turn s t (Go.Proofs.Ythiemglckmociaa.part (fun k => r (k + (n - 1))) 2 i) := fun s t g1 g2 g3 i hi => by
      rcases (show i = 0 ∨ i = 1 ∨ i = 2 ∨ i = 3 by omega) with rfl | rfl | rfl | rfl
      · rw [pl 0 (by omega), q0]; exact g1
      · rw [pl 1 (by omega), q 1 (by omega)]; exact g2
      · rw [pl 2 (by omega), q 2 (by omega)]; exact g3
      · rw [hper3, pl 0 (by omega), q0]; exact g1
    have hn2 := hno 2 (by omega) (by omega)
    have e1 : turn a c a = 0 := by unfold turn; grind
    have e2 : turn a c c = 0 := by unfold turn; grind
    have e3 : turn c (r 0) a = turn a c (r 0) := by unfold turn; grind
    have e4 : turn c (r 0) (r 0) = 0 := by unfold turn; grind
    have e5 : turn c (r 0) c = 0 := by unfold turn; grind
    have e6 : turn (r 0) a a = 0 := by unfold turn; grind
    have e7 : turn (r 0) a (r 0) = 0 := by unfold turn; grind
    have e8 : turn (r 0) a c = turn a c (r 0) := by unfold turn; grind
    by_cases wa : turn c (r 0) (r 2) < 0
    · refine near_out (s := c) (t := r 0) hper3 wa (corners _ _ ?_ (by omega) ?_)
      · rcases h.ends with ⟨_, g⟩ | ⟨g, _⟩
        · rw [← g]; omega
        · rw [← g]; omega
      · rcases h.ends with ⟨g, _⟩ | ⟨_, g⟩
        · rw [← g]; omega
        · rw [← g]; omega
    · by_cases wb : turn a c (r 2) < 0
      · refine near_out (s := a) (t := c) hper3 wb (corners _ _ ?_ (by omega) ?_)
        · rcases h.ends with ⟨_, g⟩ | ⟨g, _⟩
          · rw [← g]; omega
          · rw [← g]; omega
        · rcases h.ends with ⟨g, _⟩ | ⟨_, g⟩
          · rw [← g]; omega
          · rw [← g]; omega
      · have wc : turn (r 0) a (r 2) < 0 := by
          rcases Int.lt_or_le (turn (r 0) a (r 2)) 0 with x | x
          · exact x
          · exact absurd ⟨by show 0 ≤ turn c (r 0) (r 2); omega, by show 0 ≤ turn a c (r 2); omega, x⟩ hn2
        refine near_out (s := r 0) (t := a) hper3 wc (corners _ _ ?_ (by omega) ?_)
        · rcases h.ends with ⟨_, g⟩ | ⟨g, _⟩
          · rw [← g]; omega
          · rw [← g]; omega
        · rcases h.ends with ⟨g, _⟩ | ⟨_, g⟩
          · rw [← g]; omega
          · rw [← g]; omega
  obtain ⟨k0, hk0⟩ := hout
  obtain ⟨k, hke⟩ : ∃ k : Int, k = max k0 2 := ⟨_, rfl⟩
  have hz := hk0 k (by omega) (by omega)
  -- a point near corner 2, on the side from corner 1
  have hne : r 1 ≠ r 2 := hr.ne_next 1
  have hin := near_inn (k := k) (by omega) hne
  have y1 := hq.lam_eq 2 (k := k) (by omega) (x := near k (r 2) (r 1)) (by
    show inn (sc k (r (2 + (n - 1)))) (sc k (r (2 + 1 + (n - 1)))) _
    rw [q 2 (by omega), q (2 + 1) (by omega)]; exact hin)
  have r0 : Go.Proofs.Ythiemglckmociaa.part (fun k => r (k + 2 + (n - 1))) (n - 2) 0 = r 1 := by
    rw [part_lt (by omega)]
    show r (0 + 2 + (n - 1)) = r 1
    rw [Nat.zero_add, q 2 (by omega)]
  have r1 : Go.Proofs.Ythiemglckmociaa.part (fun k => r (k + 2 + (n - 1))) (n - 2) (0 + 1) = r 2 := by
    rw [part_lt (by omega)]
    show r (0 + 1 + 2 + (n - 1)) = r 2
    rw [show 0 + 1 + 2 + (n - 1) = 3 + (n - 1) by omega, q 3 (by omega)]
  have y2 := hd.lam_eq 0 (k := k) (by omega) (x := near k (r 2) (r 1)) (by
    show inn (sc k (Go.Proofs.Ythiemglckmociaa.part (fun k => r (k + 2 + (n - 1))) (n - 2) 0)) (sc k (Go.Proofs.Ythiemglckmociaa.part (fun k => r (k + 2 + (n - 1))) (n - 2) (0 + 1))) _
    rw [r0, r1]; exact hin)
  have yw := wsum_parts (p := fun i => sc k (r (i + (n - 1)))) (n := n) (m := 2) (by show sc k (r (n + (n - 1))) = sc k (r (0 + (n - 1))); rw [show n + (n - 1) = (0 + (n - 1)) + n by omega, hr.per]) (by omega) (near k (r 2) (r 1))
  have lq := hq.lam_all 2
  have y1' : wsum (fun i => sc k (r (i + (n - 1)))) n (near k (r 2) (r 1)) + up (r 1) (r 2) = lam (fun k => r (k + (n - 1))) n 2 := by
    have : up ((fun k => r (k + (n - 1))) 2) ((fun k => r (k + (n - 1))) (2 + 1)) = up (r 1) (r 2) := by
      show up (r (2 + (n - 1))) (r (2 + 1 + (n - 1))) = _
      rw [q 2 (by omega), q (2 + 1) (by omega)]
    rw [this] at y1; exact y1
  have y2' : wsum (fun i => sc k (Go.Proofs.Ythiemglckmociaa.part (fun k => r (k + 2 + (n - 1))) (n - 2) i)) (n - 2 + 1) (near k (r 2) (r 1)) + up (r 1) (r 2) = lam (Go.Proofs.Ythiemglckmociaa.part (fun k => r (k + 2 + (n - 1))) (n - 2)) (n - 2 + 1) 0 := by
    have y2b : wsum (fun i => sc k (Go.Proofs.Ythiemglckmociaa.part (fun k => r (k + 2 + (n - 1))) (n - 2) i)) (n - 2 + 1) (near k (r 2) (r 1)) + up (Go.Proofs.Ythiemglckmociaa.part (fun k => r (k + 2 + (n - 1))) (n - 2) 0) (Go.Proofs.Ythiemglckmociaa.part (fun k => r (k + 2 + (n - 1))) (n - 2) (0 + 1)) = lam (Go.Proofs.Ythiemglckmociaa.part (fun k => r (k + 2 + (n - 1))) (n - 2)) (n - 2 + 1) 0 := y2
    rw [r0, r1] at y2b; exact y2b
  have yw' : wsum (fun i => sc k (r (i + (n - 1)))) n (near k (r 2) (r 1)) = wsum (fun i => sc k (Go.Proofs.Ythiemglckmociaa.part (fun k => r (k + (n - 1))) 2 i)) (2 + 1) (near k (r 2) (r 1)) + wsum (fun i => sc k (Go.Proofs.Ythiemglckmociaa.part (fun k => r (k + 2 + (n - 1))) (n - 2) i)) (n - 2 + 1) (near k (r 2) (r 1)) := yw
  have hsum' : lam (Go.Proofs.Ythiemglckmociaa.part (fun k => r (k + (n - 1))) 2) (2 + 1) 0 + lam (Go.Proofs.Ythiemglckmociaa.part (fun k => r (k + 2 + (n - 1))) (n - 2)) (n - 2 + 1) 0 = wsum (fun i => sc 2 (r (i + (n - 1)))) n (mid2 (r (0 + (n - 1))) (r (2 + (n - 1)))) + 1 := hsum
  have l1 := h1.lam01
  have l2 := hq.lam01
  have hsame : lam (Go.Proofs.Ythiemglckmociaa.part (fun k => r (k + (n - 1))) 2) (2 + 1) 0 = lam (fun k => r (k + (n - 1))) n 0 := by
    refine same_sign l1 l2 x2 x1 ?_
    rcases Int.lt_trichotomy (turn (r (0 + (n - 1))) (r (1 + (n - 1))) (r (2 + (n - 1)))) 0 with x | x | x
    · exact .inr ⟨x, x⟩
    · rw [x] at x2; omega
    · exact .inl ⟨x, x⟩
  omega
end
/-- Some line inside splits each plot of four corners or more. -/
theorem Simple.has_diag {p : Nat → Int × Int} {n : Nat} (h : Simple p n) (h4 : 4 ≤ n) : ∃ s m, Diag (fun k => p (k + s)) n m ∧ wsum (fun i => sc 2 (p (i + s))) n (mid2 (p (0 + s)) (p (m + s))) ≠ 0 := by
  obtain ⟨j0, hj0, _, hm0⟩ := exists_min (fun i => (p i).2) (fun _ => True) n ⟨0, by omega, trivial⟩
  obtain ⟨j, hj, hj2, hm⟩ := exists_min (fun i => -(p i).1) (fun i => (p i).2 = (p j0).2) n ⟨j0, hj0, rfl⟩
  have hr := h.shift j
  have hlow : Low (fun k => p (k + j)) n := by
    intro i hi hi0
    show (p (0 + j)).2 < (p (i + j)).2 ∨ (p (0 + j)).2 = (p (i + j)).2 ∧ (p (i + j)).1 < (p (0 + j)).1
    rw [Nat.zero_add, ← h.mod (i + j)]
    have hlt : (i + j) % n < n := Nat.mod_lt _ (by omega)
    have a1 := hm0 _ hlt trivial
    by_cases e : (p ((i + j) % n)).2 = (p j0).2
    · right
      have a2 := hm _ hlt e
      refine ⟨by omega, ?_⟩
      have hne : p ((i + j) % n) ≠ p j := fun e2 => by
        have := h.inj _ _ hlt hj e2
        have : (i + j) % n ≠ j := by
          rcases Nat.lt_or_ge (i + j) n with x | x
          · rw [Nat.mod_eq_of_lt x]; omega
          · rw [show i + j = (i + j - n) + n by omega, Nat.add_mod_right, Nat.mod_eq_of_lt (by omega)]; omega
        omega
      have : (p ((i + j) % n)).1 ≠ (p j).1 := fun e2 => hne (Prod.ext e2 (by omega))
      omega
    · left; omega
  have hX : Lowest (fun k => p (k + (n - 1) + j)) n := by
    intro i hi hi1
    show (p (1 + (n - 1) + j)).2 < (p (i + (n - 1) + j)).2 ∨ (p (1 + (n - 1) + j)).2 = (p (i + (n - 1) + j)).2 ∧ (p (i + (n - 1) + j)).1 < (p (1 + (n - 1) + j)).1
    have e1 : p (1 + (n - 1) + j) = p (0 + j) := by rw [show 1 + (n - 1) + j = (0 + j) + n by omega, h.per]
    rw [e1]
    by_cases c0 : i = 0
    · subst c0
      rw [show 0 + (n - 1) + j = n - 1 + j by omega]
      exact hlow (n - 1) (by omega) (by omega)
    · have e2 : p (i + (n - 1) + j) = p (i - 1 + j) := by rw [show i + (n - 1) + j = (i - 1 + j) + n by omega, h.per]
      rw [e2]
      exact hlow (i - 1) (by omega) (by omega)
  have hext := (hr.shift (n - 1)).ext hX
  have f0 : p (0 + (n - 1) + j) = p (n - 1 + j) := by rw [Nat.zero_add]
  have f1 : p (1 + (n - 1) + j) = p (0 + j) := by rw [show 1 + (n - 1) + j = (0 + j) + n by omega, h.per]
  have f2 : p (2 + (n - 1) + j) = p (1 + j) := by rw [show 2 + (n - 1) + j = (1 + j) + n by omega, h.per]
  have hext : 0 < (2 * lam (fun k => p (k + (n - 1) + j)) n 0 - 1) * turn (p (0 + (n - 1) + j)) (p (1 + (n - 1) + j)) (p (2 + (n - 1) + j)) := hext
  rw [f0, f1, f2] at hext
  obtain ⟨a, c, hw⟩ : ∃ a c, Wedge (fun k => p (k + j)) n a c := by
    rcases Int.lt_trichotomy (turn (p (n - 1 + j)) (p (0 + j)) (p (1 + j))) 0 with x | x | x
    · exact ⟨p (n - 1 + j), p (1 + j), hr, .inr ⟨rfl, rfl⟩, by show 0 < turn _ _ (p (0 + j)); unfold turn at x ⊢; grind⟩
    · rw [x, Int.mul_zero] at hext; omega
    · exact ⟨p (1 + j), p (n - 1 + j), hr, .inl ⟨rfl, rfl⟩, by show 0 < turn _ _ (p (0 + j)); unfold turn at x ⊢; grind⟩
  by_cases hex : ∃ i, 2 ≤ i ∧ i + 2 ≤ n ∧ inT a (p (0 + j)) c (p (i + j))
  · obtain ⟨i, hi1, hi2, hi3⟩ := hex
    obtain ⟨m, hm1, ⟨hm2, hm3, hm4⟩, hm5⟩ := exists_min (fun i => -(wB a (p (0 + j)) c (p (i + j)))) (fun i => 2 ≤ i ∧ i + 2 ≤ n ∧ inT a (p (0 + j)) c (p (i + j))) n ⟨i, by omega, hi1, hi2, hi3⟩
    have ht : Wedge.Top (fun k => p (k + j)) n a c m := ⟨hm2, hm3, hm4, fun i g1 g2 g3 => by have := hm5 i (by omega) ⟨g1, g2, g3⟩; show wB a (p (0 + j)) c (p (i + j)) ≤ wB a (p (0 + j)) c (p (m + j)); omega⟩
    exact ⟨j, m, hw.diag ht, hw.inside hlow ht⟩
  · have hno : ∀ i, 2 ≤ i → i + 2 ≤ n → ¬ inT a (p (0 + j)) c (p (i + j)) := fun i g1 g2 g3 => hex ⟨i, g1, g2, g3⟩
    have d := hw.base h4 hno
    have di := hw.base_inside hlow h4 hno
    refine ⟨n - 1 + j, 2, ?_, ?_⟩
    · have : (fun k => p (k + (n - 1 + j))) = fun k => p (k + (n - 1) + j) := funext fun k => by rw [Nat.add_assoc]
      rw [this]; exact d
    · have : (fun i => sc 2 (p (i + (n - 1 + j)))) = fun k => sc 2 (p (k + (n - 1) + j)) := funext fun k => by rw [Nat.add_assoc]
      rw [this, ← Nat.add_assoc, ← Nat.add_assoc]; exact di
end Go.Proofs.Ythiemglckmociaa
/- Plain geometry of plots, eleventh part: what the points tell of the area. No program in sight. No conditions. -/
namespace Go.Proofs.Ythiemglckmociaa
/-- With a line inside, no corner of one part is gone round by the other part. -/
theorem Diag.corner_out {p : Nat → Int × Int} {n m : Nat} (h : Simple p n) (d : Diag p n m) (hc : wsum (fun i => sc 2 (p i)) n (mid2 (p 0) (p m)) ≠ 0) {i : Nat} (h1 : m < i) (h2 : i < n) : wsum (Go.Proofs.Ythiemglckmociaa.part p m) (m + 1) (p i) = 0 := by
  have lo := d.lo; have hi := d.hi
  have k2 : (0 : Int) < 2 := by decide
  have hx := mid_inn (h.ne_next i)
  have hz := d.side_out h hc k2 (show m ≤ i by omega) h2 hx
  have hxl := sc_left 2 (p i) (p (i + 1))
  rw [← wsum_sc k2, wsum_free (p := fun i => sc 2 (Go.Proofs.Ythiemglckmociaa.part p m i)) (y := near 2 (p (i + 1)) (p i)) (by simp only [part_end]; rw [part_lt (by omega)])]
  · exact hz
  · intro j hj
    by_cases c : j < m
    · simp only [part_lt (show j ≤ m by omega), part_lt (show j + 1 ≤ m by omega)]
      refine (h.scale k2).side_side (k := i) (j := j) h2 (by omega) (by omega) hxl hx.1 (fun e => ⟨fun e2 => ?_, ?_⟩) (fun e => ?_)
      · have := h.inj _ _ h2 (by omega) (sc_inj k2 e2); omega
      · have : p j = p (i + 1) := by rw [← e, h.mod]
        rw [this]; exact hx.2.2
      · rw [Nat.mod_eq_of_lt (by omega)] at e; omega
    · obtain rfl : j = m := by omega
      have hr := (d.swap h).part (h.shift j)
      have b0 : Go.Proofs.Ythiemglckmociaa.part (fun k => p (k + j)) (n - j) (i - j) = p i := by
        rw [part_lt (by omega)]; show p (i - j + j) = p i; rw [show i - j + j = i by omega]
      have b1 : Go.Proofs.Ythiemglckmociaa.part (fun k => p (k + j)) (n - j) (i - j + 1) = p (i + 1) := by
        rw [part_lt (by omega)]; show p (i - j + 1 + j) = p (i + 1); rw [show i - j + 1 + j = i + 1 by omega]
      have b2 : Go.Proofs.Ythiemglckmociaa.part (fun k => p (k + j)) (n - j) (n - j) = p 0 := by
        rw [part_lt (by omega)]; show p (n - j + j) = p 0; rw [show n - j + j = n by omega, h.per1]
      have b3 : Go.Proofs.Ythiemglckmociaa.part (fun k => p (k + j)) (n - j) (n - j + 1) = p j := by
        rw [part_end]; show p (0 + j) = p j; rw [Nat.zero_add]
      have hs := (hr.scale k2).side_side (k := i - j) (j := n - j) (x := sc 2 (p i)) (y := near 2 (p (i + 1)) (p i)) (by omega) (by omega) (by omega) (by simp only [b0, b1]; exact hxl) (by simp only [b0, b1]; exact hx.1) (fun e => ?_) (fun e => ?_)
      · simp only [b2, b3] at hs
        simp only [part_end, part_lt (show j ≤ j by omega)]
        exact apart_swap hs
      · simp only [b2]
        rw [Nat.mod_eq_of_lt (by omega)] at e
        have e2 : p (i + 1) = p 0 := by rw [show i + 1 = n by omega, h.per1]
        refine ⟨fun e3 => ?_, ?_⟩
        · have := h.inj _ _ h2 (by omega) (sc_inj k2 e3); omega
        · rw [← e2]; exact hx.2.2
      · rw [Nat.mod_self] at e; omega
theorem Diag.neg {p : Nat → Int × Int} {n m : Nat} (d : Diag p n m) : Diag (fun k => neg (p k)) n m :=
  ⟨d.lo, d.hi, by simp only [turn_neg, dot_neg]; exact d.s0, by simp only [turn_neg, dot_neg]; exact d.s1, by simp only [turn_neg, dot_neg]; exact d.t0, by simp only [turn_neg, dot_neg]; exact d.t1,
    fun k h0 h1 h2 h3 h4 => apart_neg (d.free k h0 h1 h2 h3 h4)⟩
theorem Diag.mid_neg {p : Nat → Int × Int} {n m : Nat} (h : Simple p n) (d : Diag p n m) :
    wsum (fun i => sc 2 (Go.Proofs.Ythiemglckmociaa.neg (p i))) n (mid2 (Go.Proofs.Ythiemglckmociaa.neg (p 0)) (Go.Proofs.Ythiemglckmociaa.neg (p m))) = wsum (fun i => sc 2 (p i)) n (mid2 (p 0) (p m)) := by
  have e1 := d.lam_sum h
  have e2 := d.neg.lam_sum h.neg
  have f1 := (d.part h).lam_neg
  have f2 := ((d.swap h).part (h.shift m)).lam_neg
  have g1 : (fun i => Go.Proofs.Ythiemglckmociaa.neg (Go.Proofs.Ythiemglckmociaa.part p m i)) = Go.Proofs.Ythiemglckmociaa.part (fun k => Go.Proofs.Ythiemglckmociaa.neg (p k)) m := rfl
  have g2 : (fun i => Go.Proofs.Ythiemglckmociaa.neg (Go.Proofs.Ythiemglckmociaa.part (fun k => p (k + m)) (n - m) i)) = Go.Proofs.Ythiemglckmociaa.part (fun k => Go.Proofs.Ythiemglckmociaa.neg (p (k + m))) (n - m) := rfl
  rw [g1] at f1
  rw [g2] at f2
  rw [f1] at e2
  have g3 : Go.Proofs.Ythiemglckmociaa.part (fun k => (fun k => Go.Proofs.Ythiemglckmociaa.neg (p k)) (k + m)) (n - m) = Go.Proofs.Ythiemglckmociaa.part (fun k => Go.Proofs.Ythiemglckmociaa.neg (p (k + m))) (n - m) := rfl
  rw [g3, f2] at e2
  omega
/-- How often a point is gone round, counted with rays to the right and to the left. -/
def cc (p : Nat → Int × Int) (n : Nat) (x : Int × Int) : Int := wsum p n x + wsum (fun i => neg (p i)) n (neg x)
theorem cc_parts {p : Nat → Int × Int} {n m : Nat} (hper : p n = p 0) (hm : m ≤ n) (x : Int × Int) : cc p n x = cc (part p m) (m + 1) x + cc (part (fun k => p (k + m)) (n - m)) (n - m + 1) x := by
  have e1 := wsum_parts hper hm x
  have e2 := wsum_parts (p := fun i => neg (p i)) (n := n) (m := m) (by rw [hper]) hm (neg x)
  have g1 : (fun i => Go.Proofs.Ythiemglckmociaa.neg (Go.Proofs.Ythiemglckmociaa.part p m i)) = Go.Proofs.Ythiemglckmociaa.part (fun k => Go.Proofs.Ythiemglckmociaa.neg (p k)) m := rfl
  have g2 : (fun i => Go.Proofs.Ythiemglckmociaa.neg (Go.Proofs.Ythiemglckmociaa.part (fun k => p (k + m)) (n - m) i)) = Go.Proofs.Ythiemglckmociaa.part (fun k => (fun k => Go.Proofs.Ythiemglckmociaa.neg (p k)) (k + m)) (n - m) := rfl
  unfold cc
  rw [g1, g2]
  generalize wsum (Go.Proofs.Ythiemglckmociaa.part (fun k => (fun k => Go.Proofs.Ythiemglckmociaa.neg (p k)) (k + m)) (n - m)) (n - m + 1) (Go.Proofs.Ythiemglckmociaa.neg x) = z at *
  omega
theorem Simple.cc_shift {p : Nat → Int × Int} {n : Nat} (h : Simple p n) (s : Nat) (x : Int × Int) : cc (fun k => p (k + s)) n x = cc p n x := by
  have e1 := h.wsum_shift s x
  have e2 := h.neg.wsum_shift s (Go.Proofs.Ythiemglckmociaa.neg x)
  unfold cc
  rw [e1]
  have g : (fun i => Go.Proofs.Ythiemglckmociaa.neg ((fun k => p (k + s)) i)) = fun i => (fun k => Go.Proofs.Ythiemglckmociaa.neg (p k)) (i + s) := rfl
  rw [g, e2]
theorem Diag.half {p : Nat → Int × Int} {n m : Nat} (h : Simple p n) (d : Diag p n m) (hc : wsum (fun i => sc 2 (p i)) n (mid2 (p 0) (p m)) ≠ 0) :
    sumN (fun i => cc (Go.Proofs.Ythiemglckmociaa.part p m) (m + 1) (p i)) n = sumN (fun i => cc (Go.Proofs.Ythiemglckmociaa.part p m) (m + 1) (Go.Proofs.Ythiemglckmociaa.part p m i)) (m + 1) := by
  have lo := d.lo; have hi := d.hi
  have e := sumN_split (fun i => cc (Go.Proofs.Ythiemglckmociaa.part p m) (m + 1) (p i)) (m + 1) (n - (m + 1))
  rw [show m + 1 + (n - (m + 1)) = n by omega] at e
  have hz : sumN (fun i => cc (Go.Proofs.Ythiemglckmociaa.part p m) (m + 1) (p (m + 1 + i))) (n - (m + 1)) = 0 := sumN_zero fun i hi => by
    have e1 := d.corner_out h hc (i := m + 1 + i) (by omega) (by omega)
    have e2 := d.neg.corner_out h.neg (by rw [d.mid_neg h]; exact hc) (i := m + 1 + i) (by omega) (by omega)
    have g1 : (fun i => Go.Proofs.Ythiemglckmociaa.neg (Go.Proofs.Ythiemglckmociaa.part p m i)) = Go.Proofs.Ythiemglckmociaa.part (fun k => Go.Proofs.Ythiemglckmociaa.neg (p k)) m := rfl
    show wsum _ _ _ + wsum _ _ _ = 0
    rw [g1, e1, e2]; rfl
  rw [hz] at e
  rw [e, Int.add_zero]
  exact sumN_congr fun i hi => by rw [part_lt (by omega)]
theorem cr_pos {x a b : Int × Int} (h : 0 < turn a b x) : cr x a b = if a.2 ≤ x.2 ∧ x.2 < b.2 then 1 else 0 := by
  unfold cr
  split
  · rw [if_pos (by omega)]
  · rw [if_neg (by omega), if_neg (by omega)]
theorem cr_nega {x a b : Int × Int} (h : turn a b x < 0) : cr x a b = if b.2 ≤ x.2 ∧ x.2 < a.2 then -1 else 0 := by
  unfold cr
  rw [if_neg (by omega)]
  split
  · rw [if_pos (by omega)]
  · rw [if_neg (by omega)]
theorem cr_end1 (a b : Int × Int) : cr a a b = 0 := cr_on (by unfold turn; grind)
theorem cr_end2 (a b : Int × Int) : cr b a b = 0 := cr_on (by unfold turn; grind)
theorem three_up {x y z : Int} (h : ¬ (x = y ∧ y = z)) : (if y ≤ x ∧ x < z then (1 : Int) else 0) + (if z ≤ y ∧ y < x then 1 else 0) + (if x ≤ z ∧ z < y then 1 else 0) +
    ((if -y ≤ -x ∧ -x < -z then (1 : Int) else 0) + (if -z ≤ -y ∧ -y < -x then 1 else 0) + (if -x ≤ -z ∧ -z < -y then 1 else 0)) = 1 := by
  split <;> split <;> split <;> split <;> split <;> split <;> omega
theorem three_down {x y z : Int} (h : ¬ (x = y ∧ y = z)) : (if z ≤ x ∧ x < y then (-1 : Int) else 0) + (if x ≤ y ∧ y < z then -1 else 0) + (if y ≤ z ∧ z < x then -1 else 0) +
    ((if -z ≤ -x ∧ -x < -y then (-1 : Int) else 0) + (if -x ≤ -y ∧ -y < -z then -1 else 0) + (if -y ≤ -z ∧ -z < -x then -1 else 0)) = -1 := by
  split <;> split <;> split <;> split <;> split <;> split <;> omega
/-- The corners of a triangle. -/
theorem tri_corners {a b c : Int × Int} : (0 < turn a b c → cr a b c + cr b c a + cr c a b + (cr (neg a) (neg b) (neg c) + cr (neg b) (neg c) (neg a) + cr (neg c) (neg a) (neg b)) = 1) ∧
    (turn a b c < 0 → cr a b c + cr b c a + cr c a b + (cr (neg a) (neg b) (neg c) + cr (neg b) (neg c) (neg a) + cr (neg c) (neg a) (neg b)) = -1) := by
  have r1 : turn b c a = turn a b c := turn_rot a b c
  have r2 : turn c a b = turn a b c := by rw [turn_rot b c a, r1]
  have hne : turn a b c ≠ 0 → ¬ (a.2 = b.2 ∧ b.2 = c.2) := fun h e => h (by unfold turn; rw [e.1, e.2]; simp)
  constructor
  · intro h
    have hn := hne (by omega)
    rw [cr_pos (x := a) (a := b) (b := c) (by omega), cr_pos (x := b) (a := c) (b := a) (by omega), cr_pos (x := c) (a := a) (b := b) (by omega),
      cr_pos (x := neg a) (by rw [turn_neg]; omega), cr_pos (x := neg b) (by rw [turn_neg]; omega), cr_pos (x := neg c) (by rw [turn_neg]; omega)]
    exact three_up hn
  · intro h
    have hn := hne (by omega)
    rw [cr_nega (x := a) (a := b) (b := c) (by omega), cr_nega (x := b) (a := c) (b := a) (by omega), cr_nega (x := c) (a := a) (b := b) (by omega),
      cr_nega (x := neg a) (by rw [turn_neg]; omega), cr_nega (x := neg b) (by rw [turn_neg]; omega), cr_nega (x := neg c) (by rw [turn_neg]; omega)]
    exact three_down hn
theorem Simple.tri_base {p : Nat → Int × Int} (h : Simple p 3) : sumN (fun i => cc p 3 (p i)) 3 = 2 * lam p 3 0 - 1 := by
  have hp : p 3 = p 0 := h.per1
  obtain ⟨t1, t2⟩ := tri_corners (a := p 0) (b := p 1) (c := p 2)
  have ha := h.area_pos
  have e : area p 3 = turn (p 0) (p 1) (p 2) := by
    unfold area
    simp only [sumN, hp, Nat.zero_add, Nat.reduceAdd]
    unfold turn; grind
  rw [e] at ha
  have hs : sumN (fun i => cc p 3 (p i)) 3 = cr (p 0) (p 1) (p 2) + cr (p 1) (p 2) (p 0) + cr (p 2) (p 0) (p 1) + (cr (Go.Proofs.Ythiemglckmociaa.neg (p 0)) (Go.Proofs.Ythiemglckmociaa.neg (p 1)) (Go.Proofs.Ythiemglckmociaa.neg (p 2)) + cr (Go.Proofs.Ythiemglckmociaa.neg (p 1)) (Go.Proofs.Ythiemglckmociaa.neg (p 2)) (Go.Proofs.Ythiemglckmociaa.neg (p 0)) + cr (Go.Proofs.Ythiemglckmociaa.neg (p 2)) (Go.Proofs.Ythiemglckmociaa.neg (p 0)) (Go.Proofs.Ythiemglckmociaa.neg (p 1))) := by
    simp only [sumN, cc, wsum, hp, Nat.zero_add, Nat.reduceAdd, cr_end1, cr_end2]
    omega
  rw [hs]
  rcases h.lam01 with l | l <;> rw [l] at ha ⊢
  · rw [t2 (by omega)]; rfl
  · rw [t1 (by omega)]; rfl
/-- What the corners of a plot count together. -/
theorem corners : ∀ (n : Nat) (p : Nat → Int × Int), Simple p n → sumN (fun i => cc p n (p i)) n = (2 * lam p n 0 - 1) * ((n : Int) - 2)
  | n, p, h => by
    have h3 := h.three
    by_cases c : n = 3
    · subst c
      rw [h.tri_base]; omega
    · obtain ⟨s, m, d, hc⟩ := h.has_diag (by omega)
      have lo := d.lo; have hi := d.hi
      have hq := h.shift s
      have hc : wsum (fun i => sc 2 ((fun k => p (k + s)) i)) n (mid2 ((fun k => p (k + s)) 0) ((fun k => p (k + s)) m)) ≠ 0 := hc
      rw [← lam_shift h s]
      have e0 : sumN (fun i => cc p n (p i)) n = sumN (fun i => cc (fun k => p (k + s)) n (p (i + s))) n := by
        rw [← sumN_shift (f := fun i => cc p n (p i)) (n := n) (fun i => by simp only [h.per]) s]
        exact sumN_congr fun i _ => (h.cc_shift s _).symm
      rw [e0]
      generalize hqd : (fun k => p (k + s)) = q at *
      have e1 : sumN (fun i => cc q n (p (i + s))) n = sumN (fun i => cc q n (q i)) n := by rw [← hqd]
      rw [e1]
      have e2 : sumN (fun i => cc q n (q i)) n = sumN (fun i => cc (Go.Proofs.Ythiemglckmociaa.part q m) (m + 1) (q i)) n + sumN (fun i => cc (Go.Proofs.Ythiemglckmociaa.part (fun k => q (k + m)) (n - m)) (n - m + 1) (q i)) n := by
        rw [← sumN_add]
        exact sumN_congr fun i _ => cc_parts hq.per1 (by omega) _
      have e3 := sumN_shift (f := fun i => cc (Go.Proofs.Ythiemglckmociaa.part (fun k => q (k + m)) (n - m)) (n - m + 1) (q i)) (n := n) (fun i => by simp only [hq.per]) m
      have hc2 : wsum (fun i => sc 2 (q (i + m))) n (mid2 (q (0 + m)) (q (n - m + m))) ≠ 0 := by
        rw [Nat.zero_add, show n - m + m = n by omega, hq.per1, mid2_swap]
        have := (hq.scale (show (0 : Int) < 2 by decide)).wsum_shift m (mid2 (q 0) (q m))
        rw [this]; exact hc
      have f1 := d.half hq hc
      have f2 := (d.swap hq).half (hq.shift m) hc2
      have i1 := corners (m + 1) (Go.Proofs.Ythiemglckmociaa.part q m) (d.part hq)
      have i2 := corners (n - m + 1) (Go.Proofs.Ythiemglckmociaa.part (fun k => q (k + m)) (n - m)) ((d.swap hq).part (hq.shift m))
      obtain ⟨l1, l2⟩ := d.lam_same hq hc
      rw [e2, ← e3, f1, f2, i1, i2, l1, l2, ← Int.mul_add]
      congr 1
      omega
  termination_by n => n
end Go.Proofs.Ythiemglckmociaa
/- Plain geometry of plots, twelfth part: points inside, points on the border, and the area. No program in sight. No conditions. -/
namespace Go.Proofs.Ythiemglckmociaa
theorem sumB_point {B : Nat} {t : Int} (K : Int) (h1 : -B ≤ t) (h2 : t ≤ B) : sumB B (fun x => if x = t then K else 0) = K := by
  unfold sumB
  rw [sumN_one (i := (t + B).toNat) (by omega) (fun j hj hne => if_neg (by omega))]
  exact if_pos (by omega)
theorem sumB_zero {B : Nat} : sumB B (fun _ => 0) = 0 := sumN_zero fun _ _ => rfl
theorem sum2_point {B : Nat} {a : Int × Int} (K : Int) (h : (-B ≤ a.1 ∧ a.1 ≤ B) ∧ -B ≤ a.2 ∧ a.2 ≤ B) : sum2 B (fun x => if x = a then K else 0) = K := by
  unfold sum2
  have e : (fun y => sumB B fun x => if ((x, y) : Int × Int) = a then K else 0) = fun y => if y = a.2 then K else 0 := funext fun y => by
    by_cases c : y = a.2
    · rw [if_pos c]
      have e2 : (fun x => if ((x, y) : Int × Int) = a then K else 0) = fun x => if x = a.1 then K else 0 := funext fun x => by
        by_cases c2 : x = a.1
        · rw [if_pos c2, if_pos (Prod.ext c2 c)]
        · rw [if_neg c2, if_neg fun e => c2 (by rw [← e])]
      rw [e2]; exact sumB_point K h.1.1 h.1.2
    · rw [if_neg c]
      have e2 : (fun x => if ((x, y) : Int × Int) = a then K else 0) = fun _ => 0 := funext fun x => if_neg fun e => c (by rw [← e])
      rw [e2]; exact sumB_zero
  rw [e]; exact sumB_point K h.2.1 h.2.2
theorem sumB_mul {B : Nat} (c : Int) (f : Int → Int) : sumB B (fun x => c * f x) = c * sumB B f := sumN_mul c _ _
theorem sum2_mul {B : Nat} (c : Int) (f : Int × Int → Int) : sum2 B (fun x => c * f x) = c * sum2 B f := by
  unfold sum2
  rw [← sumB_mul]; congr 1; funext y; exact sumB_mul c _
/-- Off the border. -/
theorem cc_off {p : Nat → Int × Int} {n : Nat} (hper : p n = p 0) {x : Int × Int} (hx : ∀ i, i < n → onB (p i) (p (i + 1)) x = false) : cc p n x = 2 * wsum p n x := by
  have e : sumN (fun j => cr x (p j) (p (j + 1)) - cr (neg x) (neg (p j)) (neg (p (j + 1)))) n = sumN (fun j => up x (p (j + 1)) - up x (p j)) n := sumN_congr fun j hj => cr_both (hx j hj)
  rw [sumN_sub, sumN_tele (fun j => up x (p j)), hper] at e
  show sumN (fun j => cr x (p j) (p (j + 1))) n + sumN (fun j => cr (neg x) (neg (p j)) (neg (p (j + 1)))) n = 2 * sumN (fun j => cr x (p j) (p (j + 1))) n
  omega
/-- Inside a side. -/
theorem Simple.cc_side {p : Nat → Int × Int} {n : Nat} (h : Simple p n) {i : Nat} (hi : i < n) {x : Int × Int} (hx : inn (p i) (p (i + 1)) x) : cc p n x = 2 * lam p n 0 - 1 := by
  have e1 := h.inside_both hi hx
  have e2 := h.lam_eq i (show (0 : Int) < 1 by decide) (x := x) (by rw [sc_one, sc_one]; exact hx)
  simp only [sc_one] at e2
  have e3 := h.lam_all i
  have e4 : wsum (fun i => p i) n x = wsum p n x := rfl
  unfold cc
  omega
theorem sumN_at {n : Nat} {p : Nat → Int × Int} (K : Nat → Int) {x : Int × Int} (hno : ∀ i, i < n → x ≠ p i) : sumN (fun i => if x = p i then K i else 0) n = 0 := sumN_zero fun i hi => if_neg (hno i hi)
/-- The points inside and on the border tell the area. -/
theorem pick {p : Nat → Int × Int} {n : Nat} (h : Simple p n) {B : Nat} (hb : ∀ i, (-B ≤ (p i).1 ∧ (p i).1 ≤ B) ∧ -B ≤ (p i).2 ∧ (p i).2 ≤ B) {f g : Int × Int → Int}
    (hon : ∀ x i, i < n → onB (p i) (p (i + 1)) x = true → f x = 1 ∧ g x = 0)
    (hoff : ∀ x, (∀ i, i < n → onB (p i) (p (i + 1)) x = false) → f x = 0 ∧ g x = if wsum p n x = 0 then 0 else 1) :
    (2 * lam p n 0 - 1) * area p n = 2 * sum2 B g + sum2 B f - 2 := by
  have h3 := h.three
  have hl := h.lam01
  generalize he : 2 * lam p n 0 - 1 = e
  have hee : e * e = 1 := by rcases hl with l | l <;> rw [l] at he <;> rw [← he] <;> rfl
  have key : ∀ x, e * cc p n x = (2 * g x + f x) + sumN (fun i => if x = p i then e * cc p n (p i) - 1 else 0) n := fun x => by
    by_cases c : ∃ i, i < n ∧ onB (p i) (p (i + 1)) x = true
    · obtain ⟨i, hi, ho⟩ := c
      obtain ⟨e1, e2⟩ := hon x i hi ho
      rw [e1, e2]
      by_cases cc0 : ∃ j, j < n ∧ x = p j
      · obtain ⟨j, hj, hx⟩ := cc0
        rw [sumN_one hj (fun k hk hkj => if_neg fun e2 => hkj (h.inj k j hk hj (by rw [← e2, hx]))), if_pos hx, hx]; omega
      · rw [sumN_at (p := p) (fun i => e * cc p n (p i) - 1) fun j hj hx => cc0 ⟨j, hj, hx⟩]
        have hin : inn (p i) (p (i + 1)) x := ⟨ho, fun e2 => cc0 ⟨i, hi, e2⟩, fun e2 => cc0 ⟨(i + 1) % n, Nat.mod_lt _ (by omega), by rw [h.mod]; exact e2⟩⟩
        rw [h.cc_side hi hin, he, hee]; rfl
    · have ho : ∀ i, i < n → onB (p i) (p (i + 1)) x = false := fun i hi => by
        cases q : onB (p i) (p (i + 1)) x
        · rfl
        · exact absurd ⟨i, hi, q⟩ c
      obtain ⟨e1, e2⟩ := hoff x ho
      rw [e1, e2, sumN_at (p := p) (fun i => e * cc p n (p i) - 1) (fun j hj hx => by
        have := ho j hj
        rw [hx] at this
        have t := sc_left 1 (p j) (p (j + 1))
        rw [sc_one, sc_one, this] at t; cases t), cc_off h.per1 ho]
      rcases h.around ho with w | w
      · rcases hl with l | l
        · rw [w, l, if_pos rfl]; omega
        · rw [w, l, ← he, l]; rfl
      · rcases hl with l | l
        · rw [w, l, ← he, l]; rfl
        · rw [w, l, if_pos (by rfl)]; omega
  rw [← area_points h.per1 hb]
  show e * sum2 B (fun x => cc p n x) = _
  rw [← sum2_mul, show (fun x => e * cc p n x) = fun x => (2 * g x + f x) + sumN (fun i => if x = p i then e * cc p n (p i) - 1 else 0) n from funext key, sum2_add (f := fun x => 2 * g x + f x), sum2_add (f := fun x => 2 * g x), sum2_mul,
    sum2_sumN (fun i x => if x = p i then e * cc p n (p i) - 1 else 0)]
  have e1 : sumN (fun i => sum2 B (fun x => if x = p i then e * cc p n (p i) - 1 else 0)) n = sumN (fun i => e * cc p n (p i) - 1) n := sumN_congr fun i _ => sum2_point _ (hb i)
  rw [e1, sumN_sub, sumN_mul, sumN_const, corners n p h, he, ← Int.mul_assoc, hee]
  omega
/-- The points of a side without its end. -/
def half (a b x : Int × Int) : Int := if onB a b x = true ∧ x ≠ b then 1 else 0
theorem Simple.border_one {p : Nat → Int × Int} {n : Nat} (h : Simple p n) {x : Int × Int} {i : Nat} (hi : i < n) (ho : onB (p i) (p (i + 1)) x = true) : sumN (fun i => half (p i) (p (i + 1)) x) n = 1 := by
  have h3 := h.three
  have main : ∀ i, i < n → onB (p i) (p (i + 1)) x = true → x ≠ p (i + 1) → sumN (fun i => half (p i) (p (i + 1)) x) n = 1 := fun i hi ho hx => by
    rw [sumN_one (f := fun i => half (p i) (p (i + 1)) x) hi (fun j hj hij => if_neg fun q => by
      have a := h.side_side hi hj hij ho ho (fun e => by rw [← e, h.mod]; exact ⟨hx, hx⟩) (fun e => by rw [← e, h.mod]; exact ⟨q.2, q.2⟩)
      have a1 := a.1
      rw [q.1] at a1; cases a1)]
    exact if_pos ⟨ho, hx⟩
  by_cases c : x = p (i + 1)
  · have e : p ((i + 1) % n) = x := by rw [h.mod, c]
    have hlt : (i + 1) % n < n := Nat.mod_lt _ (by omega)
    refine main ((i + 1) % n) hlt ?_ ?_
    · have t := sc_left 1 (p ((i + 1) % n)) (p ((i + 1) % n + 1))
      rw [sc_one, sc_one, e] at t
      rw [e]; exact t
    · rw [← e]; exact h.ne_next _
  · exact main i hi ho c
theorem seg_step {dx dy X Y : Int} (hd : ¬ (dx = 0 ∧ dy = 0)) (h : dx * Y = dy * X) : ∃ s, (Int.gcd dx dy : Int) * X = dx * s ∧ (Int.gcd dx dy : Int) * Y = dy * s := by
  by_cases c : dx = 0
  · have hy : dy ≠ 0 := fun e => hd ⟨c, e⟩
    have hX : X = 0 := by
      rw [c, Int.zero_mul] at h
      rcases Int.mul_eq_zero.1 h.symm with e | e
      · exact absurd e hy
      · exact e
    obtain ⟨s, hs⟩ : dy ∣ (Int.gcd dx dy : Int) * Y := by rw [c, Int.gcd_zero_left]; exact Int.dvd_trans (Int.dvd_natAbs.2 (Int.dvd_refl _)) (Int.dvd_mul_right _ _)
    exact ⟨s, by rw [hX, c, Int.zero_mul, Int.mul_zero], hs⟩
  · obtain ⟨s, hs⟩ : dx ∣ (Int.gcd dx dy : Int) * X := by
      rw [Int.dvd_gcd_mul_iff_dvd_mul]; exact ⟨Y, h.symm⟩
    refine ⟨s, hs, ?_⟩
    refine Int.eq_of_mul_eq_mul_left c ?_
    have e1 : dx * ((Int.gcd dx dy : Int) * Y) = (Int.gcd dx dy : Int) * (dx * Y) := by rw [← Int.mul_assoc, Int.mul_comm dx, Int.mul_assoc]
    have e2 : (Int.gcd dx dy : Int) * (dy * X) = dy * ((Int.gcd dx dy : Int) * X) := by rw [← Int.mul_assoc, Int.mul_comm (Int.gcd dx dy : Int) dy, Int.mul_assoc]
    rw [e1, h, e2, hs, ← Int.mul_assoc, ← Int.mul_assoc, Int.mul_comm dy dx]
theorem seg_count {a b : Int × Int} (hab : a ≠ b) {B : Nat} (ha : (-B ≤ a.1 ∧ a.1 ≤ B) ∧ -B ≤ a.2 ∧ a.2 ≤ B) (hb : (-B ≤ b.1 ∧ b.1 ≤ B) ∧ -B ≤ b.2 ∧ b.2 ≤ B) :
    sum2 B (half a b) = (Int.gcd (b.1 - a.1) (b.2 - a.2) : Int) := by
  have hd : ¬ (b.1 - a.1 = 0 ∧ b.2 - a.2 = 0) := fun e => hab (Prod.ext (by omega) (by omega))
  have hg0 : Int.gcd (b.1 - a.1) (b.2 - a.2) ≠ 0 := fun e => hd (Int.gcd_eq_zero_iff.1 e)
  obtain ⟨u, hu⟩ := Int.gcd_dvd_left (b.1 - a.1) (b.2 - a.2)
  obtain ⟨v, hv⟩ := Int.gcd_dvd_right (b.1 - a.1) (b.2 - a.2)
  have hst := fun X Y => seg_step (X := X) (Y := Y) hd
  generalize hg : Int.gcd (b.1 - a.1) (b.2 - a.2) = g at *
  have gp : (0 : Int) < g := by omega
  have huv : ¬ (u = 0 ∧ v = 0) := fun e => hd ⟨by rw [hu, e.1, Int.mul_zero], by rw [hv, e.2, Int.mul_zero]⟩
  have np : 0 < u * u + v * v := by
    have q1 := sq0 u; have q2 := sq0 v
    rcases Int.lt_trichotomy u 0 with c | c | c
    · have := mnn c c; omega
    · rcases Int.lt_trichotomy v 0 with c2 | c2 | c2
      · have := mnn c2 c2; omega
      · exact absurd ⟨c, c2⟩ huv
      · have := mpp c2 c2; omega
    · have := mpp c c; omega
  have honp : ∀ s : Int, 0 ≤ s → s ≤ g → onB a b (a.1 + s * u, a.2 + s * v) = true := fun s h1 h2 => by
    refine onB_mk ?_ ?_
    · unfold turn; simp only; rw [hu, hv]; grind
    · have e : dot (a.1 + s * u, a.2 + s * v) a b = -(s * (g - s) * (u * u + v * v)) := by
        unfold dot; simp only
        rw [show b.1 - (a.1 + s * u) = (b.1 - a.1) - s * u by omega, show b.2 - (a.2 + s * v) = (b.2 - a.2) - s * v by omega, hu, hv]; grind
      rw [e]
      have := mpp0 (mpp0 h1 (show 0 ≤ g - s by omega)) (Int.le_of_lt np)
      omega
  have hend : ∀ s : Int, ((a.1 + s * u, a.2 + s * v) : Int × Int) = b ↔ s = g := fun s => by
    constructor
    · intro e
      have e1 : a.1 + s * u = b.1 := by rw [← e]
      have e2 : a.2 + s * v = b.2 := by rw [← e]
      have f1 : (s - g) * u = 0 := by rw [Int.sub_mul]; omega
      have f2 : (s - g) * v = 0 := by rw [Int.sub_mul]; omega
      rcases Int.mul_eq_zero.1 f1 with c | c
      · omega
      · rcases Int.mul_eq_zero.1 f2 with c2 | c2
        · omega
        · exact absurd ⟨c, c2⟩ huv
    · intro e; subst e
      exact Prod.ext (by show a.1 + _ = b.1; omega) (by show a.2 + _ = b.2; omega)
  have hinj : ∀ s t : Int, ((a.1 + s * u, a.2 + s * v) : Int × Int) = (a.1 + t * u, a.2 + t * v) → s = t := fun s t e => by
    have e1 : a.1 + s * u = a.1 + t * u := (Prod.mk.injEq .. ▸ e).1
    have e2 : a.2 + s * v = a.2 + t * v := (Prod.mk.injEq .. ▸ e).2
    have f1 : (s - t) * u = 0 := by rw [Int.sub_mul]; omega
    have f2 : (s - t) * v = 0 := by rw [Int.sub_mul]; omega
    rcases Int.mul_eq_zero.1 f1 with c | c
    · omega
    · rcases Int.mul_eq_zero.1 f2 with c2 | c2
      · omega
      · exact absurd ⟨c, c2⟩ huv
  have key : ∀ x, half a b x = sumN (fun t => if x = (a.1 + (t : Int) * u, a.2 + (t : Int) * v) then 1 else 0) g := fun x => by
    by_cases c : ∃ t : Nat, t < g ∧ x = (a.1 + (t : Int) * u, a.2 + (t : Int) * v)
    · obtain ⟨t, ht, hx⟩ := c
      rw [sumN_one ht (fun j _ hne => if_neg fun e => hne (by
        have := hinj j t (by rw [← e, hx]); omega)), if_pos hx]
      refine if_pos ⟨by rw [hx]; exact honp t (by omega) (by omega), fun e => ?_⟩
      rw [hx] at e
      have := (hend t).1 e
      omega
    · rw [sumN_zero fun t ht => if_neg fun e => c ⟨t, ht, e⟩]
      refine if_neg fun q => c ?_
      obtain ⟨q1, q2⟩ := q
      obtain ⟨o1, o2⟩ := onB_turn q1
      obtain ⟨s, s1, s2⟩ := hst (x.1 - a.1) (x.2 - a.2) (by unfold turn at o1; omega)
      rw [hu, Int.mul_assoc] at s1
      rw [hv, Int.mul_assoc] at s2
      have t1 := Int.eq_of_mul_eq_mul_left (by omega) s1
      have t2 := Int.eq_of_mul_eq_mul_left (by omega) s2
      rw [Int.mul_comm] at t1 t2
      have hx : x = (a.1 + s * u, a.2 + s * v) := Prod.ext (by show x.1 = _; omega) (by show x.2 = _; omega)
      have e : dot (a.1 + s * u, a.2 + s * v) a b = -(s * (g - s) * (u * u + v * v)) := by
        unfold dot; simp only
        rw [show b.1 - (a.1 + s * u) = (b.1 - a.1) - s * u by omega, show b.2 - (a.2 + s * v) = (b.2 - a.2) - s * v by omega, hu, hv]; grind
      rw [hx, e] at o2
      have o3 : 0 ≤ s * (g - s) := by
        rcases Int.lt_or_le (s * (g - s)) 0 with w | w
        · have := mnp w np; omega
        · exact w
      have hs0 : 0 ≤ s := by
        rcases Int.lt_or_le s 0 with w | w
        · have := mnp w (show 0 < g - s by omega); omega
        · exact w
      have hsg : s ≤ g := by
        rcases Int.lt_or_le g s with w | w
        · have := mpn (show 0 < s by omega) (show g - s < 0 by omega); omega
        · exact w
      have hne : s ≠ g := fun w => q2 (by rw [hx]; exact (hend s).2 w)
      exact ⟨s.toNat, by omega, by rw [show ((s.toNat : Nat) : Int) = s by omega]; exact hx⟩
  rw [show half a b = fun x => sumN (fun t => if x = (a.1 + (t : Int) * u, a.2 + (t : Int) * v) then 1 else 0) g from funext key, sum2_sumN (fun t x => if x = (a.1 + (t : Int) * u, a.2 + (t : Int) * v) then 1 else 0)]
  rw [sumN_congr (g := fun _ => 1) (fun t ht => sum2_point 1 (by
    have o := honp t (by omega) (by omega)
    obtain ⟨o1, o2⟩ := onB_turn o
    have := (on_iff o1).1 o2
    simp only at this ⊢
    omega)), sumN_const]
  omega
/-- The points on the border. -/
theorem border_points {p : Nat → Int × Int} {n : Nat} (h : Simple p n) {B : Nat} (hb : ∀ i, (-B ≤ (p i).1 ∧ (p i).1 ≤ B) ∧ -B ≤ (p i).2 ∧ (p i).2 ≤ B) {f : Int × Int → Int}
    (hon : ∀ x i, i < n → onB (p i) (p (i + 1)) x = true → f x = 1) (hoff : ∀ x, (∀ i, i < n → onB (p i) (p (i + 1)) x = false) → f x = 0) :
    sum2 B f = sumN (fun i => (Int.gcd ((p (i + 1)).1 - (p i).1) ((p (i + 1)).2 - (p i).2) : Int)) n := by
  have key : ∀ x, f x = sumN (fun i => half (p i) (p (i + 1)) x) n := fun x => by
    by_cases c : ∃ i, i < n ∧ onB (p i) (p (i + 1)) x = true
    · obtain ⟨i, hi, ho⟩ := c
      rw [h.border_one hi ho, hon x i hi ho]
    · have ho : ∀ i, i < n → onB (p i) (p (i + 1)) x = false := fun i hi => by
        cases q : onB (p i) (p (i + 1)) x
        · rfl
        · exact absurd ⟨i, hi, q⟩ c
      rw [hoff x ho, sumN_zero (f := fun i => half (p i) (p (i + 1)) x) fun i hi => if_neg fun q => by rw [ho i hi] at q; cases q.1]
  rw [show f = fun x => sumN (fun i => half (p i) (p (i + 1)) x) n from funext key, sum2_sumN (fun i x => half (p i) (p (i + 1)) x)]
  exact sumN_congr fun i _ => seg_count (h.ne_next i) (hb i) (hb (i + 1))
end Go.Proofs.Ythiemglckmociaa
/- Plain geometry of plots, thirteenth part: plots moved, turned, mirrored, gone round the other way. No program in sight. No conditions. -/
namespace Go.Proofs.Ythiemglckmociaa
/-- A change of points that keeps what is on a line, lengths and, up to one sign, areas. -/
structure Keeps (f : Int × Int → Int × Int) (s : Int) : Prop where
  one : s = 1 ∨ s = -1
  inj : ∀ a b, f a = f b → a = b
  turn : ∀ a b c, turn (f a) (f b) (f c) = s * turn a b c
  dot : ∀ a b c, dot (f a) (f b) (f c) = dot a b c
variable {f : Int × Int → Int × Int} {s : Int}
theorem Keeps.zero (h : Keeps f s) (a b c : Int × Int) : Go.Proofs.Ythiemglckmociaa.turn (f a) (f b) (f c) = 0 ↔ Go.Proofs.Ythiemglckmociaa.turn a b c = 0 := by
  rw [h.turn]
  rcases h.one with e | e <;> subst e <;> omega
theorem Keeps.on (h : Keeps f s) (a b x : Int × Int) : onB (f a) (f b) (f x) = onB a b x := by
  unfold onB
  rw [h.turn, h.dot]
  rcases h.one with e | e <;> subst e
  · rw [Int.one_mul]
  · congr 1
    rw [Bool.eq_iff_iff]; simp
theorem Keeps.mul (h : Keeps f s) (a b c x y z : Int × Int) : Go.Proofs.Ythiemglckmociaa.turn (f a) (f b) (f c) * Go.Proofs.Ythiemglckmociaa.turn (f x) (f y) (f z) = Go.Proofs.Ythiemglckmociaa.turn a b c * Go.Proofs.Ythiemglckmociaa.turn x y z := by
  rw [h.turn, h.turn]
  rcases h.one with e | e <;> subst e
  · rw [Int.one_mul, Int.one_mul]
  · rw [Int.neg_one_mul, Int.neg_one_mul, Int.neg_mul_neg]
theorem Keeps.apart (h : Keeps f s) {x y a b : Int × Int} (k : apart x y a b) : apart (f x) (f y) (f a) (f b) := by
  unfold Go.Proofs.Ythiemglckmociaa.apart at k ⊢
  rw [h.on, h.on, h.on, h.on, h.mul, h.mul]
  exact k
theorem Keeps.simple (h : Keeps f s) {p : Nat → Int × Int} {n : Nat} (k : Simple p n) : Simple (fun i => f (p i)) n :=
  ⟨k.three, fun i => by rw [k.per], fun i j hi hj e => k.inj i j hi hj (h.inj _ _ e), fun i => by rw [h.zero, h.dot]; exact k.spike i, fun i j hi hj h1 h2 h3 => h.apart (k.free i j hi hj h1 h2 h3)⟩
/-- Gone round the other way. -/
theorem Simple.rev {p : Nat → Int × Int} {n : Nat} (h : Simple p n) : Simple (fun i => p (n - 1 - i % n)) n := by
  have h3 := h.three
  have q : ∀ i c, c ≤ n → p (n - 1 - (i + c) % n) = p (n - 1 - i % n + n - c) := fun i c hc => by
    have hl := Nat.mod_lt i (show 0 < n by omega)
    rw [← Nat.mod_add_mod]
    by_cases e : i % n + c < n
    · rw [Nat.mod_eq_of_lt e, show n - 1 - i % n + n - c = n - 1 - (i % n + c) + n by omega, h.per]
    · by_cases e2 : i % n + c < n + n
      · rw [Nat.mod_eq_sub_mod (by omega), Nat.mod_eq_of_lt (by omega)]
        congr 1; omega
      · omega
  refine ⟨h3, fun i => by simp only [Nat.add_mod_right], fun i j hi hj e => ?_, fun i => ?_, fun i j hi hj h1 h2 h3' => ?_⟩
  · simp only [Nat.mod_eq_of_lt hi, Nat.mod_eq_of_lt hj] at e
    have := h.inj _ _ (by omega) (by omega) e
    omega
  · have e0 := q i 0 (by omega)
    have hl := Nat.mod_lt i (show 0 < n by omega)
    simp only [q i 1 (by omega), q i 2 (by omega)]
    obtain ⟨m, hm⟩ : ∃ m, m = n - 1 - i % n + n - 2 := ⟨_, rfl⟩
    have s0 : p (n - 1 - i % n) = p (m + 2) := by rw [hm, show n - 1 - i % n + n - 2 + 2 = n - 1 - i % n + n by omega, h.per]
    rw [s0, show n - 1 - i % n + n - 1 = m + 1 by omega, ← hm]
    rintro ⟨e1, e2⟩
    refine h.spike m ⟨?_, ?_⟩
    · have : turn (p (m + 2)) (p (m + 1)) (p m) = - turn (p m) (p (m + 1)) (p (m + 2)) := by unfold turn; grind
      omega
    · have : dot (p (m + 1)) (p (m + 2)) (p m) = dot (p (m + 1)) (p m) (p (m + 2)) := by unfold dot; grind
      omega
  · have side : ∀ i, i < n → ∃ a, a < n ∧ (i + 1 = n ∧ a + 1 = n ∨ i + a + 2 = n) ∧ p (n - 1 - i % n) = p (a + 1) ∧ p (n - 1 - (i + 1) % n) = p a := fun i hi => by
      by_cases e : i + 1 = n
      · refine ⟨n - 1, by omega, .inl ⟨e, by omega⟩, ?_, ?_⟩
        · rw [Nat.mod_eq_of_lt hi, show n - 1 - i = 0 by omega, show n - 1 + 1 = n by omega, h.per1]
        · rw [e, Nat.mod_self]; rfl
      · refine ⟨n - 2 - i, by omega, .inr (by omega), ?_, ?_⟩
        · rw [Nat.mod_eq_of_lt hi]; congr 1; omega
        · rw [Nat.mod_eq_of_lt (by omega)]; congr 1; omega
    obtain ⟨a, ha, ca, a1, a2⟩ := side i hi
    obtain ⟨b, hb, cb, b1, b2⟩ := side j hj
    have f1 : j + 1 = n → i ≠ 0 := fun e e2 => h2 (by rw [e, Nat.mod_self, e2])
    have f2 : j + 1 ≠ i := fun e => h2 (by rw [e, Nat.mod_eq_of_lt hi])
    have f3 : i + 1 = n → j ≠ 0 := fun e e2 => h3' (by rw [e, Nat.mod_self, e2])
    have f4 : i + 1 ≠ j := fun e => h3' (by rw [e, Nat.mod_eq_of_lt hj])
    simp only [a1, a2, b1, b2]
    refine apart_swap (apart_symm (apart_swap (apart_symm (h.free a b ha hb (by omega) (fun e => ?_) (fun e => ?_)))))
    · by_cases c : b + 1 = n
      · rw [c, Nat.mod_self] at e; omega
      · rw [Nat.mod_eq_of_lt (by omega)] at e; omega
    · by_cases c : a + 1 = n
      · rw [c, Nat.mod_self] at e; omega
      · rw [Nat.mod_eq_of_lt (by omega)] at e; omega
end Go.Proofs.Ythiemglckmociaa
/- Plain geometry of plots, fourteenth part: the middle of a line inside is off the border; two ways along one line. No program in sight. No conditions. -/
namespace Go.Proofs.Ythiemglckmociaa
theorem Diag.mid_off {p : Nat → Int × Int} {n m : Nat} (h : Simple p n) (d : Diag p n m) : ∀ i, i < n → onB (sc 2 (p i)) (sc 2 (p (i + 1))) (mid2 (p 0) (p m)) = false := by
  have lo := d.lo; have hi := d.hi
  have k2 : (0 : Int) < 2 := by decide
  have main : ∀ (p : Nat → Int × Int) (m : Nat), Simple p n → Diag p n m → ∀ i, i < m → onB (sc 2 (p i)) (sc 2 (p (i + 1))) (mid2 (p 0) (p m)) = false := fun p m h d i hi => by
    have lo := d.lo; have hi' := d.hi
    have hp := (d.part h).scale k2
    have hm := mid_inn ((d.part h).ne_next m)
    rw [part_end, part_lt (Nat.le_refl m), ← mid2_near] at hm
    have := hp.inside_off (i := m) (j := i) (by omega) (by omega) (by omega) (x := mid2 (p 0) (p m)) (by
      simp only [part_end, part_lt (Nat.le_refl m)]
      rw [mid2_swap]; exact hm)
    simp only [part_lt (show i ≤ m by omega), part_lt (show i + 1 ≤ m by omega)] at this
    exact this
  intro i hi2
  by_cases c : i < m
  · exact main p m h d i c
  · have := main (fun k => p (k + m)) (n - m) (h.shift m) (d.swap h) (i - m) (by omega)
    simp only [Nat.zero_add] at this
    rw [show i - m + m = i by omega, show i - m + 1 + m = i + 1 by omega, show n - m + m = n by omega, h.per1, mid2_swap] at this
    exact this
theorem back_on {a b c : Int × Int} (hab : a ≠ b) (hac : a ≠ c) : (turn a b c = 0 ∧ 0 < dot a b c) ↔ (onB a b c = true ∨ onB a c b = true) := by
  have e1 : turn a c b = - turn a b c := by unfold turn; grind
  have e2 : dot a c b = dot a b c := by unfold dot; grind
  constructor
  · rintro ⟨h1, h2⟩
    by_cases c1 : 0 < dot b c a
    · exact .inl (col_between h1 c1 h2)
    · refine .inr (onB_mk (by omega) ?_)
      have : dot b a c = dot b c a := by unfold dot; grind
      omega
  · rintro (h | h)
    · exact ⟨(onB_turn h).1, on_ahead h hac.symm⟩
    · have h1 := on_ahead h hab.symm
      have h2 := (onB_turn h).1
      exact ⟨by omega, by omega⟩
end Go.Proofs.Ythiemglckmociaa
